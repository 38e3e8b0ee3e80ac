/- count: move; a pending Read's and Load's function. -/
import Derived.Test.YtfjgpeffhbfihaaCntB
import Derived.Deep.RegionHeld3
import Derived.Deep.DeepCutAuto
namespace Go.Proofs.Ytfjgpeffhbfihaa
open Go.RowKit

theorem hmfC : ∀ (fn : Fn) (first cap : Array Value) (w : World), (Instr.makeFunc fn first cap).run Try.prog w = .ok (.func fn first cap) w := fun _ _ _ _ => rfl
/-- what a pending call's function leaves -/
def CloRet (w : World) (F Fm : Nat → Prop) (gc gm who val' : Nat) (L' : List AccE) (s' : CallS) (d : Bool) (er n : Int) (e : Ending) (w' : World) : Prop :=
  ∃ v F', e = .returned (.tuple #[v, .agg #[.bool d, .int .i64 er, .int .i64 n]]) ∧ MachAt w' F' gm [val'] 0 L' ∧ GB w w' Fm ∧ (∀ i, F' i → Fm i ∨ w.heap.size ≤ i) ∧ PendAt w' (fun i => F i ∨ F' i) gc who v s'
/-- what move leaves -/
def MoveRet (w : World) (F : Nat → Prop) (gc who stop : Nat) (er : Int) (by_ : Nat) (e : Ending) (w' : World) : Prop :=
  ∃ v, e = .returned v ∧ PendAt w' F gc who v (.load stop er by_) ∧ Ext w w'
theorem cap_new {w w' : World} {F : Nat → Prop} {b : Nat} {t : TypeId} {v : Value} (h : w'.heap[b]? = some (.cells #[v] t (0, 0))) (hb : w.heap.size ≤ b) (hF : ∀ i, F i → i < w.heap.size) : CapAt w' F (.pointer (some ⟨b, 0, none⟩)) v :=
  ⟨b, t, rfl, h, fun e => by have := hF b e; omega⟩
set_option maxHeartbeats 1000000 in
theorem cmove_any (w : World) (F : Nat → Prop) (gc who stop by_ : Nat) (er : Int) (hF : ∀ i, F i → i < w.heap.size) :
    Calls Try.prog 56 #[.pointer (some ⟨gc, 0, none⟩), .int .i64 (who : Int), .int .u64 (stop : Int), .int .i64 er, .int .u64 (by_ : Int)] w (MoveRet w F gc who stop er by_) := by
  have hmf := hmfC
  have HF := Lib.hid hF
  clear hF
  go_enter Try.func56, Try.ntmps56
  go_wp2_with fail
  go_ret
  refine ⟨_, rfl, ⟨_, _, _, _, _, rfl, cap_new (blk_past (blk_past (blk_past (blk_past (blk_new w _) _) _) _) _) (Nat.le_refl _) HF.out, cap_new (blk_past (blk_past (blk_past (blk_newk _ _ (by simp)) _) _) _) (by omega) HF.out, cap_new (blk_past (blk_past (blk_newk _ _ (by simp)) _) _) (by omega) HF.out, cap_new (blk_past (blk_newk _ _ (by simp)) _) (by omega) HF.out, cap_new (blk_newk _ _ (by simp)) (by omega) HF.out⟩, (((((Ext.refl w).alloc _).alloc _).alloc _).alloc _).alloc _⟩
theorem CapAt.ext {w w' : World} {F : Nat → Prop} {p v : Value} (h : CapAt w F p v) (x : Ext w w') : CapAt w' F p v := h.gb (GB.of_ext (fun _ => False) x) (fun _ e => e.elim) (fun _ _ e => e)
theorem MachAt.lt {w : World} {F : Nat → Prop} {g : Nat} {ws : List Nat} {clk : Int} {L : List AccE} (h : MachAt w F g ws clk L) : ∀ i, F i → i < w.heap.size := by
  obtain ⟨_, _, _, _, _, _, _, _, _, _, _, _, _, _, _, hlt⟩ := h
  exact hlt
/-- the result laid into its cells -/
theorem clo_fin {w W w2 w3 : World} {Fm F' : Nat → Prop} {gm : Nat} {ws : List Nat} {L : List AccE} {a b c : Value} (hm : MachAt w2 F' gm ws 0 L) (g2 : GB W w2 Fm) (f2 : ∀ i, F' i → Fm i ∨ W.heap.size ≤ i) (x3 : Ext w2 w3) (xW : Ext w W) (hr : w.heap.size < W.heap.size) (hlt : ∀ i, Fm i → i < w.heap.size) :
    MachAt (((w3.setCell ⟨w.heap.size, 0, none⟩ a).setCell ⟨w.heap.size, 1, none⟩ b).setCell ⟨w.heap.size, 2, none⟩ c) F' gm ws 0 L ∧ GB w (((w3.setCell ⟨w.heap.size, 0, none⟩ a).setCell ⟨w.heap.size, 1, none⟩ b).setCell ⟨w.heap.size, 2, none⟩ c) Fm ∧ ∀ i, F' i → Fm i ∨ w.heap.size ≤ i := by
  have hn : ¬ F' w.heap.size := fun e => by
    rcases f2 _ e with h | h
    · exact Nat.lt_irrefl _ (hlt _ h)
    · omega
  have gs : GB w3 (((w3.setCell ⟨w.heap.size, 0, none⟩ a).setCell ⟨w.heap.size, 1, none⟩ b).setCell ⟨w.heap.size, 2, none⟩ c) (· = w.heap.size) := (((GB.refl w3 (· = w.heap.size)).set w.heap.size 0 _ (.inl rfl)).set w.heap.size 1 _ (.inl rfl)).set w.heap.size 2 _ (.inl rfl)
  refine ⟨(hm.ext x3).gb gs (fun i hi e => hn (e ▸ hi)), ((((GB.back xW g2).ext x3).set w.heap.size 0 _ (.inr (Nat.le_refl _))).set w.heap.size 1 _ (.inr (Nat.le_refl _))).set w.heap.size 2 _ (.inr (Nat.le_refl _)), fun i hi => ?_⟩
  rcases f2 i hi with h | h
  · exact .inl h
  · exact .inr (by omega)
theorem row3 {w : World} {g : Nat} {x y z : Value} {t : TypeId} (h : w.heap[g]? = some (.cells #[x, y, z] t (0, 0))) (a b c : Value) : (((w.setCell ⟨g, 0, none⟩ a).setCell ⟨g, 1, none⟩ b).setCell ⟨g, 2, none⟩ c).heap[g]? = some (.cells #[a, b, c] t (0, 0)) := blk_set (blk_set (blk_set h 0 a) 1 b) 2 c
theorem load0_ok (w : World) (F : Nat → Prop) (g val : Nat) (L : List AccE) (who : Int) (h : MachAt w F g [val] 0 L) (hL : L.length ≤ 1000000) (h1 : 0 ≤ who) (h2 : who < 64) :
    Calls Try.prog 12 #[.pointer (some ⟨g, 0, none⟩), .int .i64 who, .int .i64 0] w fun e w' => e = .returned (.tuple #[.int .u64 (val : Int), .int .i64 0]) ∧ MachGo w F g [val] 0 (L ++ [⟨who, 1, 0, val, 0, true⟩]) w' :=
  load_ok w F g [val] 0 L who 0 val h hL h1 h2 rfl
set_option maxHeartbeats 1000000 in
set_option maxRecDepth 100000 in
theorem cread_any (w : World) (F Fm : Nat → Prop) (gc gm who val : Nat) (L : List AccE) (p0 p1 : Value) (hm : MachAt w Fm gm [val] 0 L) (hL : L.length ≤ 100000) (hc : w.cell? ⟨gc, 0, none⟩ = some (.pointer (some ⟨gm, 0, none⟩))) (hgc : ¬ Fm gc) (hFm : ∀ i, Fm i → F i)
    (k0 : CapAt w F p0 (.pointer (some ⟨gc, 0, none⟩))) (k1 : CapAt w F p1 (.int .i64 (who : Int))) (hw : who < 64) (hv : (val : Int) ≤ 9223372036854775807) :
    Calls Try.prog 57 #[p0, p1] w (CloRet w F Fm gc gm who val (L ++ [⟨who, 1, 0, val, 0, true⟩]) .idle true 0 val) := by
  obtain ⟨b0, rfl, c0, n0⟩ := k0.cell
  obtain ⟨b1, rfl, c1, n1⟩ := k1.cell
  obtain ⟨W, hW⟩ : ∃ W, w.alloc (.cells #[.bool false, .int .i64 0, .int .i64 0] 71) = W := ⟨_, rfl⟩
  have xW : Ext w W := by rw [← hW]; exact (Ext.refl w).alloc _
  have KR := Lib.hid (show W.heap[w.heap.size]? = some (.cells #[.bool false, .int .i64 0, .int .i64 0] 71 (0, 0)) by rw [← hW]; exact blk_new w _)
  have LD := Lib.hid (fun (u : World) (hx : Ext W u) => load0_ok u Fm gm val L who (hm.ext (xW.trans hx)) (by omega) (by omega) (by omega))
  have HM := Lib.hid hm
  have d0 := ext_cell xW c0; have d1 := ext_cell xW c1; have dc := ext_cell xW hc
  have m0 : ¬ Fm b0 := fun e => n0 (hFm _ e)
  have m1 : ¬ Fm b1 := fun e => n1 (hFm _ e)
  have hlt := Lib.hid hm.lt
  clear c0 c1 hc hm n0 n1
  go_enter Try.func57, Try.ntmps57
  go_upto_region 1 with fail
  (try rw [hW])
  clear hW
  go_region_held3 (fun w' => w'.cell? ⟨b0, 0, none⟩ = some (.pointer (some ⟨gc, 0, none⟩)) ∧ w'.cell? ⟨b1, 0, none⟩ = some (.int .i64 (who : Int)) ∧ w'.cell? ⟨gc, 0, none⟩ = some (.pointer (some ⟨gm, 0, none⟩)))
    (((try go_split_ands); refine ⟨?_, ?_, ?_⟩ <;> first | assumption | (with_reducible exact drew_cell d0) | (with_reducible exact drew_cell d1) | (with_reducible exact drew_cell dc) | (with_reducible exact t0) | (with_reducible exact t1) | (with_reducible exact tc)))
    ((go_at_call 12; (with_reducible refine (LD.out W.drew (Ext.refl W).drew).mono ?_); rintro e w2 ⟨rfl, hg⟩; have HG := Lib.hid (MachGo.back (GB.of_ext Fm (Ext.refl W).drew) (fun i hi => .inl hi) hg); obtain ⟨F', hm2, g2, f2⟩ := HG.out; have t0 := g2.cell d0 m0; have t1 := g2.cell d1 m1; have tc := g2.cell dc hgc; have KR2 := Lib.hid (g2.blk KR.out (fun e => Nat.lt_irrefl _ (hlt.out _ e))); have HM2 := Lib.hid hm2; have HG2 := Lib.hid g2; have HF2 := Lib.hid f2; clear hm2 g2 f2 hg))
  all_goals
    go_wp2_with fail
    refine (cend_any 0 val _ hv).mono ?_
    rintro e w3 ⟨rfl, x3⟩
    have KR3 := blk_ext KR2.out x3
    have r0 := blk_cell KR3 0; have r1 := blk_cell KR3 1; have r2 := blk_cell KR3 2
    have z0 := blk_frozen KR3 0; have z1 := blk_frozen KR3 1; have z2 := blk_frozen KR3 2
    have K3 := Lib.hid KR3
    clear KR3
    go_wp2_with fail
    refine bodyPost_ret (results_tmp_row (p := 3) (u := 2) rfl _ _ w.heap.size _ #[.bool true, .int .i64 0, .int .i64 (val : Int)] (0, 0) _ rfl (row3 K3.out _ _ _) Try.underlying71 (by rfl) (by kernel_rfl)) rfl ?_
    obtain ⟨y1, y2, y3⟩ := clo_fin (a := .bool true) (b := .int .i64 0) (c := .int .i64 (val : Int)) HM2.out HG2.out HF2.out x3 xW (blk_lt KR.out) hlt.out
    exact ⟨.nilFunc, F', rfl, y1, y2, y3, rfl⟩
end Go.Proofs.Ytfjgpeffhbfihaa
