/- count: a pending move's Swap. -/
import Derived.Test.YtfjgpeffhbfihaaCntD
namespace Go.Proofs.Ytfjgpeffhbfihaa
open Go.RowKit

theorem swap0_hit (w : World) (F : Nat → Prop) (g val new : Nat) (L : List AccE) (who : Int) (h : MachAt w F g [val] 0 L) (hL : L.length ≤ 1000000) (h1 : 0 ≤ who) (h2 : who < 64) :
    Calls Try.prog 13 #[.pointer (some ⟨g, 0, none⟩), .int .i64 who, .int .i64 0, .int .u64 (val : Int), .int .u64 (new : Int)] w fun e w' => e = .returned (.tuple #[.bool true, .int .i64 0]) ∧ MachGo w F g [new] 0 (L ++ [⟨who, 2, 0, val, new, true⟩]) w' :=
  swap_hit w F g [val] 0 L who 0 val new h hL h1 h2 rfl
theorem swap0_miss (w : World) (F : Nat → Prop) (g val n new : Nat) (L : List AccE) (who : Int) (h : MachAt w F g [val] 0 L) (hL : L.length ≤ 1000000) (h1 : 0 ≤ who) (h2 : who < 64) (hne : val ≠ n) :
    Calls Try.prog 13 #[.pointer (some ⟨g, 0, none⟩), .int .i64 who, .int .i64 0, .int .u64 (n : Int), .int .u64 (new : Int)] w fun e w' => e = .returned (.tuple #[.bool false, .int .i64 0]) ∧ MachGo w F g [val] 0 (L ++ [⟨who, 2, 0, n, new, false⟩]) w' :=
  swap_miss w F g [val] 0 L who 0 val n new h hL h1 h2 rfl hne
set_option maxHeartbeats 2000000 in
set_option maxRecDepth 100000 in
theorem cswap_hit (w : World) (F Fm : Nat → Prop) (gc gm who val new stop by_ : Nat) (er : Int) (L : List AccE) (p0 p1 p2 p3 p4 p5 : Value) (hm : MachAt w Fm gm [val] 0 L) (hL : L.length ≤ 100000) (hc : w.cell? ⟨gc, 0, none⟩ = some (.pointer (some ⟨gm, 0, none⟩))) (hgc : ¬ Fm gc) (hFm : ∀ i, Fm i → F i) (hF : ∀ i, F i → i < w.heap.size)
    (k0 : CapAt w F p0 (.pointer (some ⟨gc, 0, none⟩))) (k1 : CapAt w F p1 (.int .i64 (who : Int))) (k2 : CapAt w F p2 (.int .u64 (val : Int))) (k3 : CapAt w F p3 (.int .u64 (by_ : Int))) (k4 : CapAt w F p4 (.int .u64 (stop : Int))) (k5 : CapAt w F p5 (.int .i64 er)) (hw : who < 64)
    (hnew : IntKind.u64.wrap ((val : Int) + (by_ : Int)) = (new : Int)) (hnv : (new : Int) ≤ 9223372036854775807) :
    Calls Try.prog 75 #[p0, p1, p2, p3, p4, p5] w (CloRet w F Fm gc gm who new (L ++ [⟨who, 2, 0, val, new, true⟩]) .idle true 0 new) := by
  obtain ⟨b0, rfl, c0, n0⟩ := k0.cell
  obtain ⟨b1, rfl, c1, n1⟩ := k1.cell
  obtain ⟨b2, rfl, c2, n2⟩ := k2.cell
  obtain ⟨b3, rfl, c3, n3⟩ := k3.cell
  obtain ⟨b4, rfl, c4, n4⟩ := k4.cell
  obtain ⟨b5, rfl, c5, n5⟩ := k5.cell
  have HFl := Lib.hid hF
  obtain ⟨W, hW⟩ : ∃ W, w.alloc (.cells #[.bool false, .int .i64 0, .int .i64 0] 71) = W := ⟨_, rfl⟩
  have xW : Ext w W := by rw [← hW]; exact (Ext.refl w).alloc _
  have KR := Lib.hid (show W.heap[w.heap.size]? = some (.cells #[.bool false, .int .i64 0, .int .i64 0] 71 (0, 0)) by rw [← hW]; exact blk_new w _)
  have SW := Lib.hid (fun (u : World) (hx : Ext W u) => swap0_hit u Fm gm val new L who (hm.ext (xW.trans hx)) (by omega) (by omega) (by omega))
  have d0 := ext_cell xW c0; have d1 := ext_cell xW c1; have d2 := ext_cell xW c2; have d3 := ext_cell xW c3; have dc := ext_cell xW hc
  have D4 := Lib.hid (ext_cell xW c4); have D5 := Lib.hid (ext_cell xW c5)
  have m0 : ¬ Fm b0 := fun e => n0 (hFm _ e)
  have m1 : ¬ Fm b1 := fun e => n1 (hFm _ e)
  have m2 : ¬ Fm b2 := fun e => n2 (hFm _ e)
  have m3 : ¬ Fm b3 := fun e => n3 (hFm _ e)
  have m4 : ¬ Fm b4 := fun e => n4 (hFm _ e)
  have m5 : ¬ Fm b5 := fun e => n5 (hFm _ e)
  have hlt := Lib.hid hm.lt
  clear c0 c1 c2 c3 c4 c5 hc hm n0 n1 n2 n3 n4 n5 hF
  go_enter Try.func75, Try.ntmps75
  go_upto_region 1 with fail
  (try rw [hW])
  clear hW
  go_region_held3 (fun w' => w'.cell? ⟨b0, 0, none⟩ = some (.pointer (some ⟨gc, 0, none⟩)) ∧ w'.cell? ⟨b1, 0, none⟩ = some (.int .i64 (who : Int)) ∧ w'.cell? ⟨b2, 0, none⟩ = some (.int .u64 (val : Int)) ∧ w'.cell? ⟨b3, 0, none⟩ = some (.int .u64 (by_ : Int)) ∧ w'.cell? ⟨gc, 0, none⟩ = some (.pointer (some ⟨gm, 0, none⟩)))
    (((try go_split_ands); refine ⟨?_, ?_, ?_, ?_, ?_⟩ <;> first | assumption | (with_reducible exact drew_cell d0) | (with_reducible exact drew_cell d1) | (with_reducible exact drew_cell d2) | (with_reducible exact drew_cell d3) | (with_reducible exact drew_cell dc) | (with_reducible exact t0) | (with_reducible exact t1) | (with_reducible exact t2) | (with_reducible exact t3) | (with_reducible exact tc)))
    ((go_at_call 13; (with_reducible refine (SW.out W.drew (Ext.refl W).drew).mono ?_); rintro e w2 ⟨rfl, hg⟩; have HG := Lib.hid (MachGo.back (GB.of_ext Fm (Ext.refl W).drew) (fun i hi => .inl hi) hg); obtain ⟨F', hm2, g2, f2⟩ := HG.out; have t0 := g2.cell d0 m0; have t1 := g2.cell d1 m1; have t2 := g2.cell d2 m2; have t3 := g2.cell d3 m3; have tc := g2.cell dc hgc; have T4 := Lib.hid (g2.cell D4.out m4); have T5 := Lib.hid (g2.cell D5.out m5); have KR2 := Lib.hid (g2.blk KR.out (fun e => Nat.lt_irrefl _ (hlt.out _ e))); have HM2 := Lib.hid hm2; have HG2 := Lib.hid g2; have HF2 := Lib.hid f2; clear hm2 g2 f2 hg))
  all_goals
    clear d0 d1 d2 d3 dc
    go_wp2_with fail
    refine (cend_any 0 new _ hnv).mono ?_
    rintro e w3 ⟨rfl, x3⟩
    have KR3 := blk_ext KR2.out x3
    have r0 := blk_cell KR3 0; have r1 := blk_cell KR3 1; have r2 := blk_cell KR3 2
    have z0 := blk_frozen KR3 0; have z1 := blk_frozen KR3 1; have z2 := blk_frozen KR3 2
    have K3 := Lib.hid KR3
    clear KR3
    go_wp2_with fail
    refine bodyPost_ret (results_tmp_row (p := 7) (u := 6) rfl _ _ w.heap.size _ #[.bool true, .int .i64 0, .int .i64 (new : Int)] (0, 0) _ rfl (row3 K3.out _ _ _) Try.underlying71 (by rfl) (by kernel_rfl)) rfl ?_
    obtain ⟨y1, y2, y3⟩ := clo_fin (a := .bool true) (b := .int .i64 0) (c := .int .i64 (new : Int)) HM2.out HG2.out HF2.out x3 xW (blk_lt KR.out) hlt.out
    exact ⟨.nilFunc, F', rfl, y1, y2, y3, rfl⟩
set_option maxHeartbeats 2000000 in
set_option maxRecDepth 100000 in
theorem cswap_miss (w : World) (F Fm : Nat → Prop) (gc gm who val n new stop by_ : Nat) (er : Int) (L : List AccE) (p0 p1 p2 p3 p4 p5 : Value) (hm : MachAt w Fm gm [val] 0 L) (hL : L.length ≤ 100000) (hc : w.cell? ⟨gc, 0, none⟩ = some (.pointer (some ⟨gm, 0, none⟩))) (hgc : ¬ Fm gc) (hFm : ∀ i, Fm i → F i) (hF : ∀ i, F i → i < w.heap.size)
    (k0 : CapAt w F p0 (.pointer (some ⟨gc, 0, none⟩))) (k1 : CapAt w F p1 (.int .i64 (who : Int))) (k2 : CapAt w F p2 (.int .u64 (n : Int))) (k3 : CapAt w F p3 (.int .u64 (by_ : Int))) (k4 : CapAt w F p4 (.int .u64 (stop : Int))) (k5 : CapAt w F p5 (.int .i64 er)) (hw : who < 64)
    (hnew : IntKind.u64.wrap ((n : Int) + (by_ : Int)) = (new : Int)) (hne : val ≠ n) :
    Calls Try.prog 75 #[p0, p1, p2, p3, p4, p5] w (CloRet w F Fm gc gm who val (L ++ [⟨who, 2, 0, n, new, false⟩]) (.load stop er by_) false 0 0) := by
  obtain ⟨b0, rfl, c0, n0⟩ := k0.cell
  obtain ⟨b1, rfl, c1, n1⟩ := k1.cell
  obtain ⟨b2, rfl, c2, n2⟩ := k2.cell
  obtain ⟨b3, rfl, c3, n3⟩ := k3.cell
  obtain ⟨b4, rfl, c4, n4⟩ := k4.cell
  obtain ⟨b5, rfl, c5, n5⟩ := k5.cell
  have HFl := Lib.hid hF
  obtain ⟨W, hW⟩ : ∃ W, w.alloc (.cells #[.bool false, .int .i64 0, .int .i64 0] 71) = W := ⟨_, rfl⟩
  have xW : Ext w W := by rw [← hW]; exact (Ext.refl w).alloc _
  have KR := Lib.hid (show W.heap[w.heap.size]? = some (.cells #[.bool false, .int .i64 0, .int .i64 0] 71 (0, 0)) by rw [← hW]; exact blk_new w _)
  have SW := Lib.hid (fun (u : World) (hx : Ext W u) => swap0_miss u Fm gm val n new L who (hm.ext (xW.trans hx)) (by omega) (by omega) (by omega) hne)
  have d0 := ext_cell xW c0; have d1 := ext_cell xW c1; have d2 := ext_cell xW c2; have d3 := ext_cell xW c3; have dc := ext_cell xW hc
  have D4 := Lib.hid (ext_cell xW c4); have D5 := Lib.hid (ext_cell xW c5)
  have m0 : ¬ Fm b0 := fun e => n0 (hFm _ e)
  have m1 : ¬ Fm b1 := fun e => n1 (hFm _ e)
  have m2 : ¬ Fm b2 := fun e => n2 (hFm _ e)
  have m3 : ¬ Fm b3 := fun e => n3 (hFm _ e)
  have m4 : ¬ Fm b4 := fun e => n4 (hFm _ e)
  have m5 : ¬ Fm b5 := fun e => n5 (hFm _ e)
  have hlt := Lib.hid hm.lt
  clear c0 c1 c2 c3 c4 c5 hc hm n0 n1 n2 n3 n4 n5 hF
  go_enter Try.func75, Try.ntmps75
  go_upto_region 1 with fail
  (try rw [hW])
  clear hW
  go_region_held3 (fun w' => w'.cell? ⟨b0, 0, none⟩ = some (.pointer (some ⟨gc, 0, none⟩)) ∧ w'.cell? ⟨b1, 0, none⟩ = some (.int .i64 (who : Int)) ∧ w'.cell? ⟨b2, 0, none⟩ = some (.int .u64 (n : Int)) ∧ w'.cell? ⟨b3, 0, none⟩ = some (.int .u64 (by_ : Int)) ∧ w'.cell? ⟨gc, 0, none⟩ = some (.pointer (some ⟨gm, 0, none⟩)))
    (((try go_split_ands); refine ⟨?_, ?_, ?_, ?_, ?_⟩ <;> first | assumption | (with_reducible exact drew_cell d0) | (with_reducible exact drew_cell d1) | (with_reducible exact drew_cell d2) | (with_reducible exact drew_cell d3) | (with_reducible exact drew_cell dc) | (with_reducible exact t0) | (with_reducible exact t1) | (with_reducible exact t2) | (with_reducible exact t3) | (with_reducible exact tc)))
    ((go_at_call 13; (with_reducible refine (SW.out W.drew (Ext.refl W).drew).mono ?_); rintro e w2 ⟨rfl, hg⟩; have HG := Lib.hid (MachGo.back (GB.of_ext Fm (Ext.refl W).drew) (fun i hi => .inl hi) hg); obtain ⟨F', hm2, g2, f2⟩ := HG.out; have t0 := g2.cell d0 m0; have t1 := g2.cell d1 m1; have t2 := g2.cell d2 m2; have t3 := g2.cell d3 m3; have tc := g2.cell dc hgc; have T4 := Lib.hid (g2.cell D4.out m4); have T5 := Lib.hid (g2.cell D5.out m5); have KR2 := Lib.hid (g2.blk KR.out (fun e => Nat.lt_irrefl _ (hlt.out _ e))); have HM2 := Lib.hid hm2; have HG2 := Lib.hid g2; have HF2 := Lib.hid f2; clear hm2 g2 f2 hg))
  all_goals
    clear d0 d1 d2 d3 dc
    have s4 := T4.out
    have s5 := T5.out
    have hF9 : ∀ i, ((F i ∨ F' i) ∨ i = w.heap.size) → i < w2.heap.size := fun i hi => by
      rcases hi with (hi | hi) | rfl
      · exact Nat.lt_of_lt_of_le (HFl.out i hi) (Nat.le_trans xW.size HG2.out.size)
      · exact HM2.out.lt i hi
      · exact blk_lt KR2.out
    have MV := Lib.hid (cmove_any w2 (fun i => (F i ∨ F' i) ∨ i = w.heap.size) gc who stop by_ er hF9)
    clear hF9
    go_wp2_with fail
    refine MV.out.mono ?_
    rintro e w3 ⟨v, rfl, pv, x3⟩
    have PV := Lib.hid pv
    have KR3 := blk_ext KR2.out x3
    have r0 := blk_cell KR3 0; have r1 := blk_cell KR3 1; have r2 := blk_cell KR3 2
    have z0 := blk_frozen KR3 0; have z1 := blk_frozen KR3 1; have z2 := blk_frozen KR3 2
    have K3 := Lib.hid KR3
    clear KR3 pv
    go_wp2_with fail
    refine bodyPost_ret (results_tmp_row (p := 7) (u := 6) rfl _ _ w.heap.size _ #[.bool false, .int .i64 0, .int .i64 0] (0, 0) _ rfl (row3 K3.out _ _ _) Try.underlying71 (by rfl) (by kernel_rfl)) rfl ?_
    obtain ⟨y1, y2, y3⟩ := clo_fin (a := .bool false) (b := .int .i64 0) (c := .int .i64 0) HM2.out HG2.out HF2.out x3 xW (blk_lt KR.out) hlt.out
    have gs : GB w3 (((w3.setCell ⟨w.heap.size, 0, none⟩ (.bool false)).setCell ⟨w.heap.size, 1, none⟩ (.int .i64 0)).setCell ⟨w.heap.size, 2, none⟩ (.int .i64 0)) (· = w.heap.size) := (((GB.refl w3 (· = w.heap.size)).set w.heap.size 0 _ (.inl rfl)).set w.heap.size 1 _ (.inl rfl)).set w.heap.size 2 _ (.inl rfl)
    exact ⟨v, F', rfl, y1, y2, y3, PV.out.gb gs (fun i e => .inr e) (fun i _ h => .inl h)⟩
end Go.Proofs.Ytfjgpeffhbfihaa
