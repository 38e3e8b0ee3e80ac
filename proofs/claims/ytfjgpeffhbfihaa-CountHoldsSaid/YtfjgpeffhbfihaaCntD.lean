/- count: a pending move's functions. -/
import Derived.Test.YtfjgpeffhbfihaaCntC
namespace Go.Proofs.Ytfjgpeffhbfihaa
open Go.RowKit

/-- behind the Load of a move: n's variable is v -/
def LoadMid (W : World) (Fm : Nat → Prop) (gm val : Nat) (L : List AccE) (v : Value) (wd : World) : Prop :=
  ∃ b F' t, v = .pointer (some ⟨b, 0, none⟩) ∧ wd.heap[b]? = some (.cells #[.int .u64 (val : Int)] t (0, 0)) ∧ ¬ F' b ∧ W.heap.size ≤ b ∧ MachAt wd F' gm [val] 0 L ∧ GB W wd Fm ∧ ∀ i, F' i → Fm i ∨ W.heap.size ≤ i
theorem loadMid_first {W w2 : World} {Fm : Nat → Prop} {gm val : Nat} {L : List AccE} {t : TypeId} {x0 : Value} (hlt : ∀ i, Fm i → i < W.heap.size) (hg : MachGo (W.alloc (.cells #[x0] t)).drew Fm gm [val] 0 L w2) :
    LoadMid W Fm gm val L (.pointer (some ⟨W.heap.size, 0, none⟩)) (w2.setCell ⟨W.heap.size, 0, none⟩ (.int .u64 (val : Int))) := by
  obtain ⟨F', m, g, f⟩ := hg
  have hs : (W.alloc (.cells #[x0] t)).drew.heap.size = W.heap.size + 1 := by
    have := World.size_alloc W (.cells #[x0] t)
    exact this
  have hn : ¬ F' W.heap.size := fun e => by
    rcases f _ e with h | h
    · exact Nat.lt_irrefl _ (hlt _ h)
    · omega
  have kb := g.blk (show (W.alloc (.cells #[x0] t)).drew.heap[W.heap.size]? = some (.cells #[x0] t (0, 0)) from blk_new W _) (fun e => Nat.lt_irrefl _ (hlt _ e))
  have gs : GB w2 (w2.setCell ⟨W.heap.size, 0, none⟩ (.int .u64 (val : Int))) (· = W.heap.size) := (GB.refl w2 (· = W.heap.size)).set W.heap.size 0 _ (.inl rfl)
  refine ⟨W.heap.size, F', t, rfl, blk_set kb 0 _, hn, Nat.le_refl _, m.gb gs (fun i hi e => hn (e ▸ hi)), (GB.back ((Ext.refl W).alloc _).drew g).set W.heap.size 0 _ (.inr (Nat.le_refl _)), fun i hi => ?_⟩
  rcases f i hi with h | h
  · exact .inl h
  · exact .inr (by omega)
theorem loadMid_last {W w2 : World} {Fm : Nat → Prop} {gm val : Nat} {L : List AccE} {t : TypeId} (hg : MachGo W.drew Fm gm [val] 0 L w2) :
    LoadMid W Fm gm val L (.pointer (some ⟨w2.heap.size, 0, none⟩)) (w2.alloc (.cells #[.int .u64 (val : Int)] t)) := by
  obtain ⟨F', m, g, f⟩ := hg
  have hn : ¬ F' w2.heap.size := fun e => Nat.lt_irrefl _ (m.lt _ e)
  have hW : W.heap.size ≤ w2.heap.size := g.size
  exact ⟨w2.heap.size, F', t, rfl, blk_new w2 (.cells #[.int .u64 (val : Int)] t (0, 0)), hn, hW, m.ext ((Ext.refl w2).alloc _), (GB.back (Ext.refl W).drew g).alloc _, f⟩
theorem mid_blk {W w2 : World} {Fm : Nat → Prop} {gm val : Nat} {L : List AccE} {t : TypeId} {x0 : Value} (hlt : ∀ i, Fm i → i < W.heap.size) (hg : MachGo (W.alloc (.cells #[x0] t)).drew Fm gm [val] 0 L w2) : w2.cell? ⟨W.heap.size, 0, none⟩ = some x0 ∧ w2.frozen? ⟨W.heap.size, 0, none⟩ = false := by
  obtain ⟨F', m, g, f⟩ := hg
  have kb := g.blk (show (W.alloc (.cells #[x0] t)).drew.heap[W.heap.size]? = some (.cells #[x0] t (0, 0)) from blk_new W _) (fun e => Nat.lt_irrefl _ (hlt _ e))
  exact ⟨blk_cell kb 0, blk_frozen kb 0⟩
theorem LoadMid.drew {W w : World} {Fm : Nat → Prop} {gm val : Nat} {L : List AccE} {v : Value} (h : LoadMid W Fm gm val L v w) : LoadMid W Fm gm val L v w.drew := by
  obtain ⟨b, F', t, h1, h2, h3, h4, h5, h6, h7⟩ := h
  exact ⟨b, F', t, h1, h2, h3, h4, h5.ext (Ext.refl w).drew, h6.drew, h7⟩
set_option maxHeartbeats 1000000 in
set_option maxRecDepth 100000 in
theorem cload_any (w : World) (F Fm : Nat → Prop) (gc gm who val stop by_ : Nat) (er : Int) (L : List AccE) (p0 p1 p2 p3 p4 : Value) (hm : MachAt w Fm gm [val] 0 L) (hL : L.length ≤ 100000) (hc : w.cell? ⟨gc, 0, none⟩ = some (.pointer (some ⟨gm, 0, none⟩))) (hgc : ¬ Fm gc) (hFm : ∀ i, Fm i → F i) (hF : ∀ i, F i → i < w.heap.size)
    (k0 : CapAt w F p0 (.pointer (some ⟨gc, 0, none⟩))) (k1 : CapAt w F p1 (.int .i64 (who : Int))) (k2 : CapAt w F p2 (.int .u64 (stop : Int))) (k3 : CapAt w F p3 (.int .i64 er)) (k4 : CapAt w F p4 (.int .u64 (by_ : Int))) (hw : who < 64) :
    Calls Try.prog 74 #[p0, p1, p2, p3, p4] w (CloRet w F Fm gc gm who val (L ++ [⟨who, 1, 0, val, 0, true⟩]) (if val = stop then .idle else .swap val stop er by_) (decide (val = stop)) (if val = stop then er else 0) 0) := by
  have hmf := hmfC
  have K0 := Lib.hid k0; have K1 := Lib.hid k1; have K2 := Lib.hid k2; have K3 := Lib.hid k3; have K4 := Lib.hid k4
  obtain ⟨b0, rfl, c0, n0⟩ := k0.cell
  obtain ⟨b1, rfl, c1, n1⟩ := k1.cell
  obtain ⟨b2, rfl, c2, n2⟩ := k2.cell
  obtain ⟨b3, rfl, c3, n3⟩ := k3.cell
  obtain ⟨b4, rfl, c4, n4⟩ := k4.cell
  have HFl := Lib.hid hF
  have HC2 := Lib.hid c2; have HC3 := Lib.hid c3
  clear c2 c3 c4 hF
  obtain ⟨W, hW⟩ : ∃ W, w.alloc (.cells #[.bool false, .int .i64 0, .int .i64 0] 71) = W := ⟨_, rfl⟩
  have xW : Ext w W := by rw [← hW]; exact (Ext.refl w).alloc _
  have KR := Lib.hid (show W.heap[w.heap.size]? = some (.cells #[.bool false, .int .i64 0, .int .i64 0] 71 (0, 0)) by rw [← hW]; exact blk_new w _)
  have LD := Lib.hid (fun (u : World) (hx : Ext W u) => load0_ok u Fm gm val L who (hm.ext (xW.trans hx)) (by omega) (by omega) (by omega))
  have HM := Lib.hid hm
  have d0 := ext_cell xW c0; have d1 := ext_cell xW c1; have dc := ext_cell xW hc
  have ne0 : b0 ≠ W.heap.size := Nat.ne_of_lt (World.block_lt_of_cell? W _ d0)
  have ne1 : b1 ≠ W.heap.size := Nat.ne_of_lt (World.block_lt_of_cell? W _ d1)
  have nec : gc ≠ W.heap.size := Nat.ne_of_lt (World.block_lt_of_cell? W _ dc)
  have m0 : ¬ Fm b0 := fun e => n0 (hFm _ e)
  have m1 : ¬ Fm b1 := fun e => n1 (hFm _ e)
  have m2 : ¬ Fm b2 := fun e => n2 (hFm _ e)
  have m3 : ¬ Fm b3 := fun e => n3 (hFm _ e)
  have hlt := Lib.hid hm.lt
  clear c0 c1 hc hm n0 n1 n2 n3 n4
  by_cases hvs : val = stop
  · subst hvs
    rw [if_pos rfl, if_pos rfl, decide_eq_true rfl]
    go_enter Try.func74, Try.ntmps74
    go_upto_region 1 with fail
    (try rw [hW])
    clear hW
    go_cut [7, 8] (fun v7 _ wd => LoadMid W Fm gm val (L ++ [⟨who, 1, 0, val, 0, true⟩]) v7 wd)
    case first =>
      go_region_held3 (fun w' => w'.cell? ⟨b0, 0, none⟩ = some (.pointer (some ⟨gc, 0, none⟩)) ∧ w'.cell? ⟨b1, 0, none⟩ = some (.int .i64 (who : Int)) ∧ w'.cell? ⟨gc, 0, none⟩ = some (.pointer (some ⟨gm, 0, none⟩)))
        (((try go_split_ands); refine ⟨?_, ?_, ?_⟩ <;> first | assumption | (with_reducible exact drew_cell d0) | (with_reducible exact drew_cell d1) | (with_reducible exact drew_cell dc) | (with_reducible exact drew_cell (cell_past d0 _)) | (with_reducible exact drew_cell (cell_past d1 _)) | (with_reducible exact drew_cell (cell_past dc _)) | (with_reducible exact t0) | (with_reducible exact t1) | (with_reducible exact tc) | (with_reducible exact cell_past t0 _) | (with_reducible exact cell_past t1 _) | (with_reducible exact cell_past tc _) | (with_reducible exact cell_other t0 ne0) | (with_reducible exact cell_other t1 ne1) | (with_reducible exact cell_other tc nec) | (with_reducible exact drew_cell (cell_other t0 ne0)) | (with_reducible exact drew_cell (cell_other t1 ne1)) | (with_reducible exact drew_cell (cell_other tc nec)) | (with_reducible exact drew_cell (cell_past t0 _)) | (with_reducible exact drew_cell (cell_past t1 _)) | (with_reducible exact drew_cell (cell_past tc _))))
        (first
          | (go_at_call 12; (with_reducible refine (LD.out W.drew (Ext.refl W).drew).mono ?_); rintro e w2 ⟨rfl, hg⟩; have HL := Lib.hid (loadMid_last (t := 28) hg); obtain ⟨_, _, g2, _⟩ := MachGo.back (GB.of_ext Fm (Ext.refl W).drew) (fun i hi => .inl hi) hg; have t0 := g2.cell d0 m0; have t1 := g2.cell d1 m1; have tc := g2.cell dc hgc; clear g2 hg)
          | (go_at_call 12; (with_reducible refine (LD.out (W.alloc _).drew ((Ext.refl W).alloc _).drew).mono ?_); rintro e w2 ⟨rfl, hg⟩; have HL := Lib.hid (loadMid_first (fun i hi => Nat.lt_trans (hlt.out i hi) (blk_lt KR.out)) hg); obtain ⟨cb0, fb0⟩ := mid_blk (fun i hi => Nat.lt_trans (hlt.out i hi) (blk_lt KR.out)) hg; obtain ⟨_, _, g2, _⟩ := MachGo.back (GB.of_ext Fm ((Ext.refl W).alloc _).drew) (fun i hi => .inl hi) hg; have t0 := g2.cell d0 m0; have t1 := g2.cell d1 m1; have tc := g2.cell dc hgc; clear g2 hg))
      all_goals
        go_wp2_with fail
        go_meet
        exact HL.out
    case rest =>
      obtain ⟨b, F', tb, rfl, kb, hnb, hbW, m, g, f⟩ := hcut
      have cb := blk_cell kb 0
      have KB := Lib.hid kb
      clear kb
      have hnr : ¬ F' w.heap.size := fun e => by
        rcases f _ e with h | h
        · exact Nat.lt_irrefl _ (hlt.out _ h)
        · have := blk_lt KR.out; omega
      have KR2 := Lib.hid (g.blk KR.out (fun e => Nat.lt_irrefl _ (hlt.out _ e)))
      have e2 := g.cell (ext_cell xW HC2.out) m2
      have e3 := g.cell (ext_cell xW HC3.out) m3
      have M := Lib.hid m; have G := Lib.hid g; have F2 := Lib.hid f
      have hcap : ∀ (p v : Value) (w' : World), CapAt w F p v → GB w w' Fm → CapAt w' (fun i => F i ∨ F' i) p v := fun p v w' h k => h.gb k hFm (fun i hi h' => by
        rcases h' with h' | h'
        · exact h'
        · rcases F2.out i h' with h' | h'
          · exact hFm i h'
          · have := xW.size; omega)
      have HCAP := Lib.hid hcap
      clear m g f d0 d1 dc hcap
      go_wp2_with fail
      refine (cend_any er 0 wc (by omega)).mono ?_
      rintro e w3 ⟨rfl, x3⟩
      have KR3 := blk_ext KR2.out x3
      have r0 := blk_cell KR3 0; have r1 := blk_cell KR3 1; have r2 := blk_cell KR3 2
      have z0 := blk_frozen KR3 0; have z1 := blk_frozen KR3 1; have z2 := blk_frozen KR3 2
      have K3' := Lib.hid KR3
      clear KR3
      go_wp2_with fail
      refine bodyPost_ret (results_tmp_row (p := 6) (u := 5) rfl _ _ w.heap.size _ #[.bool true, .int .i64 er, .int .i64 0] (0, 0) _ rfl (row3 K3'.out _ _ _) Try.underlying71 (by rfl) (by kernel_rfl)) rfl ?_
      obtain ⟨y1, y2, y3⟩ := clo_fin (a := .bool true) (b := .int .i64 er) (c := .int .i64 0) M.out G.out F2.out x3 xW (blk_lt KR.out) hlt.out
      exact ⟨.nilFunc, F', rfl, y1, y2, y3, rfl⟩
  · have hd : ((val : Int) == (stop : Int)) = false := by rw [beq_eq_false_iff_ne]; omega
    rw [if_neg hvs, if_neg hvs, decide_eq_false hvs]
    clear hvs
    go_enter Try.func74, Try.ntmps74
    go_upto_region 1 with fail
    (try rw [hW])
    clear hW
    go_cut [7, 8] (fun v7 _ wd => LoadMid W Fm gm val (L ++ [⟨who, 1, 0, val, 0, true⟩]) v7 wd)
    case first =>
      go_region_held3 (fun w' => w'.cell? ⟨b0, 0, none⟩ = some (.pointer (some ⟨gc, 0, none⟩)) ∧ w'.cell? ⟨b1, 0, none⟩ = some (.int .i64 (who : Int)) ∧ w'.cell? ⟨gc, 0, none⟩ = some (.pointer (some ⟨gm, 0, none⟩)))
        (((try go_split_ands); refine ⟨?_, ?_, ?_⟩ <;> first | assumption | (with_reducible exact drew_cell d0) | (with_reducible exact drew_cell d1) | (with_reducible exact drew_cell dc) | (with_reducible exact drew_cell (cell_past d0 _)) | (with_reducible exact drew_cell (cell_past d1 _)) | (with_reducible exact drew_cell (cell_past dc _)) | (with_reducible exact t0) | (with_reducible exact t1) | (with_reducible exact tc) | (with_reducible exact cell_past t0 _) | (with_reducible exact cell_past t1 _) | (with_reducible exact cell_past tc _) | (with_reducible exact cell_other t0 ne0) | (with_reducible exact cell_other t1 ne1) | (with_reducible exact cell_other tc nec) | (with_reducible exact drew_cell (cell_other t0 ne0)) | (with_reducible exact drew_cell (cell_other t1 ne1)) | (with_reducible exact drew_cell (cell_other tc nec)) | (with_reducible exact drew_cell (cell_past t0 _)) | (with_reducible exact drew_cell (cell_past t1 _)) | (with_reducible exact drew_cell (cell_past tc _))))
        (first
          | (go_at_call 12; (with_reducible refine (LD.out W.drew (Ext.refl W).drew).mono ?_); rintro e w2 ⟨rfl, hg⟩; have HL := Lib.hid (loadMid_last (t := 28) hg); obtain ⟨_, _, g2, _⟩ := MachGo.back (GB.of_ext Fm (Ext.refl W).drew) (fun i hi => .inl hi) hg; have t0 := g2.cell d0 m0; have t1 := g2.cell d1 m1; have tc := g2.cell dc hgc; clear g2 hg)
          | (go_at_call 12; (with_reducible refine (LD.out (W.alloc _).drew ((Ext.refl W).alloc _).drew).mono ?_); rintro e w2 ⟨rfl, hg⟩; have HL := Lib.hid (loadMid_first (fun i hi => Nat.lt_trans (hlt.out i hi) (blk_lt KR.out)) hg); obtain ⟨cb0, fb0⟩ := mid_blk (fun i hi => Nat.lt_trans (hlt.out i hi) (blk_lt KR.out)) hg; obtain ⟨_, _, g2, _⟩ := MachGo.back (GB.of_ext Fm ((Ext.refl W).alloc _).drew) (fun i hi => .inl hi) hg; have t0 := g2.cell d0 m0; have t1 := g2.cell d1 m1; have tc := g2.cell dc hgc; clear g2 hg))
      all_goals
        go_wp2_with fail
        go_meet
        exact HL.out
    case rest =>
      obtain ⟨b, F', tb, rfl, kb, hnb, hbW, m, g, f⟩ := hcut
      have cb := blk_cell kb 0
      have KB := Lib.hid kb
      clear kb
      have hnr : ¬ F' w.heap.size := fun e => by
        rcases f _ e with h | h
        · exact Nat.lt_irrefl _ (hlt.out _ h)
        · have := blk_lt KR.out; omega
      have KR2 := Lib.hid (g.blk KR.out (fun e => Nat.lt_irrefl _ (hlt.out _ e)))
      have e2 := g.cell (ext_cell xW HC2.out) m2
      have e3 := g.cell (ext_cell xW HC3.out) m3
      have M := Lib.hid m; have G := Lib.hid g; have F2 := Lib.hid f
      have hcap : ∀ (p v : Value) (w' : World), CapAt w F p v → GB w w' Fm → CapAt w' (fun i => F i ∨ F' i) p v := fun p v w' h k => h.gb k hFm (fun i hi h' => by
        rcases h' with h' | h'
        · exact h'
        · rcases F2.out i h' with h' | h'
          · exact hFm i h'
          · have := xW.size; omega)
      have HCAP := Lib.hid hcap
      clear m g f d0 d1 dc hcap
      have r0 := blk_cell KR2.out 0; have r1 := blk_cell KR2.out 1; have r2 := blk_cell KR2.out 2
      have z0 := blk_frozen KR2.out 0; have z1 := blk_frozen KR2.out 1; have z2 := blk_frozen KR2.out 2
      go_wp2_with fail
      refine bodyPost_ret (results_tmp_row (p := 6) (u := 5) rfl _ _ w.heap.size _ #[.bool false, .int .i64 0, .int .i64 0] (0, 0) _ rfl (row3 KR2.out _ _ _) Try.underlying71 (by rfl) (by kernel_rfl)) rfl ?_
      obtain ⟨y1, y2, y3⟩ := clo_fin (a := .bool false) (b := .int .i64 0) (c := .int .i64 0) M.out G.out F2.out (Ext.refl wc) xW (blk_lt KR.out) hlt.out
      have hbr : b ≠ w.heap.size := by have := blk_lt KR.out; omega
      refine ⟨_, F', rfl, y1, y2, y3, _, _, _, _, _, _, rfl, HCAP.out _ _ _ K0.out y2, HCAP.out _ _ _ K1.out y2, ⟨b, tb, rfl, ?_, fun e => ?_⟩, HCAP.out _ _ _ K4.out y2, HCAP.out _ _ _ K2.out y2, HCAP.out _ _ _ K3.out y2⟩
      · exact blk_grown (blk_grown (blk_grown KB.out (grown_set _ _ 0 _) hbr) (grown_set _ _ 1 _) hbr) (grown_set _ _ 2 _) hbr
      · rcases e with e | e
        · have := blk_lt KR.out; have h9 := HFl.out b e; omega
        · exact hnb e
end Go.Proofs.Ytfjgpeffhbfihaa
