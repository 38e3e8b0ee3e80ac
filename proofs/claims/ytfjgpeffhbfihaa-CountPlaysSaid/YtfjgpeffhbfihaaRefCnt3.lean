/- spigotref12: DocStep. -/
import Derived.Test.YtfjgpeffhbfihaaRefCnt2
namespace Go.Proofs.Ytfjgpeffhbfihaa
open Go.RowKit

theorem dstep_arg (w : World) (p : Option Addr) (who : Int) (hb : ¬ (0 ≤ who ∧ who < 64)) :
    Calls Try.prog 30 #[.pointer p, .int .i64 who] w (RetE (.tuple #[.agg #[.bool false, .int .i64 0, .int .i64 0], .int .i64 1]) w) := by
  have HB := Lib.hid hb
  clear hb
  go_enter Try.func30, Try.ntmps30
  go_wp2_with fail
  refine (rworker_bad _ who HB.out).mono ?_
  rintro e w1 ⟨rfl, rfl⟩
  go_wp2_with fail
  refine bodyPost_ret (results_row_tmp (p := 4) (u := 5) rfl _ _ w.heap.size _ #[.bool false, .int .i64 0, .int .i64 0] (0, 0) _ rfl (blk_new w _) Try.underlying75 (by rfl) (by kernel_rfl)) rfl ?_
  exact ⟨rfl, (Ext.refl w).alloc _⟩
theorem dstep_nil (w : World) (who : Int) (h1 : 0 ≤ who) (h2 : who < 64) :
    Calls Try.prog 30 #[.pointer none, .int .i64 who] w (RetE (.tuple #[.agg #[.bool false, .int .i64 0, .int .i64 0], .int .i64 7]) w) := by
  go_enter Try.func30, Try.ntmps30
  go_wp2_with fail
  refine (rworker_ok _ who h1 h2).mono ?_
  rintro e w1 ⟨rfl, rfl⟩
  go_wp2_with fail
  refine bodyPost_ret (results_row_tmp (p := 4) (u := 5) rfl _ _ w.heap.size _ #[.bool false, .int .i64 0, .int .i64 0] (0, 0) _ rfl (blk_new w _) Try.underlying75 (by rfl) (by kernel_rfl)) rfl ?_
  exact ⟨rfl, (Ext.refl w).alloc _⟩
set_option maxRecDepth 100000 in
theorem dstep_idle (w : World) (gd lim n st who : Nat) (C : Nat → Nat × Bool × Nat) (h : DocAt w gd lim n st C) (hw : who < 64) (hs : (C who).1 = 0) :
    Calls Try.prog 30 #[.pointer (some ⟨gd, 0, none⟩), .int .i64 (who : Int)] w (RetE (.tuple #[.agg #[.bool false, .int .i64 0, .int .i64 0], .int .i64 7]) w) := by
  have a3 : (0 : Int) ≤ (who : Int) := by omega
  have a4 : (who : Int) < 64 := by omega
  obtain ⟨_, _, _, c3, _, _, _⟩ := (h.ext ((Ext.refl w).alloc (.cells #[.bool false, .int .i64 0, .int .i64 0] 75))).cells hw
  rw [hs] at c3
  clear h hs
  go_enter Try.func30, Try.ntmps30
  go_wp2_with fail
  refine (rworker_ok _ who a3 a4).mono ?_
  rintro e w1 ⟨rfl, rfl⟩
  go_wp2_with fail
  refine bodyPost_ret (results_row_tmp (p := 4) (u := 5) rfl _ _ w.heap.size _ #[.bool false, .int .i64 0, .int .i64 0] (0, 0) _ rfl (blk_new w _) Try.underlying75 (by rfl) (by kernel_rfl)) rfl ?_
  exact ⟨rfl, (Ext.refl w).alloc _⟩
/-- it went on, and the result's cells were made -/
theorem docgo_fin {w W u v : World} {gd lim n st q : Nat} {C : Nat → Nat × Bool × Nat} {a b c : Value} (x : Ext w W) (hq : w.heap.size = q) (hgd : gd < w.heap.size) (g : GB W u (· = gd)) (h : DocGo u gd lim n st C v) :
    DocGo w gd lim n st C (((v.setCell ⟨q, 0, none⟩ a).setCell ⟨q, 1, none⟩ b).setCell ⟨q, 2, none⟩ c) := by
  subst hq
  obtain ⟨h1, h2⟩ := h
  have gs := gb_row (w := v) (g := w.heap.size) (i := 0) (j := 1) (k := 2) (a := a) (b := b) (c := c)
  refine ⟨h1.blk (gs.block gd h1.lt (by omega)), ?_⟩
  exact (((GB.back x (g.trans h2 (fun i h => .inl h))).set w.heap.size 0 _ (.inr (Nat.le_refl _))).set w.heap.size 1 _ (.inr (Nat.le_refl _))).set w.heap.size 2 _ (.inr (Nat.le_refl _))
theorem blk_grown' {w w' : World} {g r : Nat} {o : Obj} (h : w.heap[g]? = some o) (k : GB w w' (· = r)) (hne : ¬ g = r) : w'.heap[g]? = some o := k.blk h hne
set_option maxHeartbeats 2000000 in
set_option maxRecDepth 100000 in
theorem dstep_read (w : World) (gd lim n st who x : Nat) (C : Nat → Nat × Bool × Nat) (h : DocAt w gd lim n st C) (hw : who < 64) (hC : C who = (3, false, x)) (hst : st ≤ 1000000) :
    Calls Try.prog 30 #[.pointer (some ⟨gd, 0, none⟩), .int .i64 (who : Int)] w fun e w' => e = .returned (.tuple #[.agg #[.bool true, .int .i64 0, .int .i64 (n : Int)], .int .i64 0]) ∧ DocGo w gd lim n (st + 1) (updC C who (0, false, 0)) w' := by
  have a3 : (0 : Int) ≤ (who : Int) := by omega
  have a4 : (who : Int) < 64 := by omega
  obtain ⟨W0, hW0⟩ : ∃ W, w.alloc (.cells #[.bool false, .int .i64 0, .int .i64 0] 75) = W := ⟨_, rfl⟩
  have xW : Ext w W0 := by rw [← hW0]; exact (Ext.refl w).alloc _
  obtain ⟨q, hq⟩ : ∃ q, w.heap.size = q := ⟨_, rfl⟩
  have KR := Lib.hid (show W0.heap[q]? = some (.cells #[.bool false, .int .i64 0, .int .i64 0] 75 (0, 0)) by rw [← hW0]; exact blk_newk w _ hq)
  have HQ := Lib.hid hq
  have hgd := h.lt
  have HD0 := Lib.hid (h.ext xW)
  have G0 : GB W0 W0 (· = gd) := GB.refl _ _
  have nq1 : ¬ gd = q := by omega
  have nq2 : ¬ q = gd := by omega
  obtain ⟨c0_0, c1_0, c2_0, c3_0, c4_0, c5_0, cf_0⟩ := HD0.out.cells hw
  rw [hC] at c3_0 c4_0 c5_0
  have f1_0 := cf_0 1; have f2_0 := cf_0 2; have f3_0 := cf_0 (3 + who * 3); have f4_0 := cf_0 (3 + who * 3 + 1); have f5_0 := cf_0 (3 + who * 3 + 2)
  clear cf_0
  obtain ⟨W1, hW1⟩ : ∃ W, W0.setCell ⟨gd, 2, none⟩ (.int .i64 ((st : Int) + 1)) = W := ⟨_, rfl⟩
  have HD1 := Lib.hid (show DocAt W1 gd lim n (st + 1) C by rw [← hW1]; exact HD0.out.setSt (st + 1))
  have G1 : GB W0 W1 (· = gd) := by rw [← hW1]; exact G0.set gd _ _ (.inl rfl)
  obtain ⟨c0_1, c1_1, c2_1, c3_1, c4_1, c5_1, cf_1⟩ := HD1.out.cells hw
  rw [hC] at c3_1 c4_1 c5_1
  have f1_1 := cf_1 1; have f2_1 := cf_1 2; have f3_1 := cf_1 (3 + who * 3); have f4_1 := cf_1 (3 + who * 3 + 1); have f5_1 := cf_1 (3 + who * 3 + 2)
  clear cf_1
  obtain ⟨W2, hW2⟩ : ∃ W, W1.setCell ⟨gd, 3 + who * 3 + 1, none⟩ (.bool true) = W := ⟨_, rfl⟩
  have HD2 := Lib.hid (show DocAt W2 gd lim n (st + 1) (updC C who (3, true, x)) by rw [← hW2]; have h9 := HD1.out.setRd hw true; rw [hC] at h9; exact h9)
  have G2 : GB W0 W2 (· = gd) := by rw [← hW2]; exact G1.set gd _ _ (.inl rfl)
  obtain ⟨c0_2, c1_2, c2_2, c3_2, c4_2, c5_2, cf_2⟩ := HD2.out.cells hw
  rw [updC_self] at c3_2 c4_2 c5_2
  have f1_2 := cf_2 1; have f2_2 := cf_2 2; have f3_2 := cf_2 (3 + who * 3); have f4_2 := cf_2 (3 + who * 3 + 1); have f5_2 := cf_2 (3 + who * 3 + 2)
  clear cf_2
  obtain ⟨W3, hW3⟩ : ∃ W, W2.setCell ⟨gd, 3 + who * 3 + 2, none⟩ (.int .i64 (n : Int)) = W := ⟨_, rfl⟩
  have HD3 := Lib.hid (show DocAt W3 gd lim n (st + 1) (updC C who (3, true, n)) by rw [← hW3]; have h9 := HD2.out.setNum hw n; rw [updC_self, updC_upd] at h9; exact h9)
  have G3 : GB W0 W3 (· = gd) := by rw [← hW3]; exact G2.set gd _ _ (.inl rfl)
  obtain ⟨c0_3, c1_3, c2_3, c3_3, c4_3, c5_3, cf_3⟩ := HD3.out.cells hw
  rw [updC_self] at c3_3 c4_3 c5_3
  have f1_3 := cf_3 1; have f2_3 := cf_3 2; have f3_3 := cf_3 (3 + who * 3); have f4_3 := cf_3 (3 + who * 3 + 1); have f5_3 := cf_3 (3 + who * 3 + 2)
  clear cf_3
  have HG := Lib.hid G3
  have KL := Lib.hid (blk_grown' KR.out G3 nq2)
  clear h G0 G1 G2 G3
  have r0 := blk_cell KL.out 0; have r1 := blk_cell KL.out 1; have r2 := blk_cell KL.out 2
  have z0 := blk_frozen KL.out 0; have z1 := blk_frozen KL.out 1; have z2 := blk_frozen KL.out 2
  go_enter Try.func30, Try.ntmps30
  go_wp2_with fail
  (try rw [hW0])
  (try rw [hq])
  refine (rworker_ok _ who a3 a4).mono ?_
  rintro e w1 ⟨rfl, rfl⟩
  go_wp2_with fail
  refine (dend_any W3 gd lim n (st + 1) who _ 0 (n : Int) HD3.out hw).mono ?_
  rintro e w5 ⟨rfl, h5⟩
  have K5 := h5.2.blk KL.out nq2
  have s0 := blk_cell K5 0; have s1 := blk_cell K5 1; have s2 := blk_cell K5 2
  have y0 := blk_frozen K5 0; have y1 := blk_frozen K5 1; have y2 := blk_frozen K5 2
  have H5 := Lib.hid h5; have K5' := Lib.hid K5
  clear h5 K5
  go_wp2_with fail
  refine bodyPost_ret (results_row_tmp (p := 4) (u := 5) rfl _ _ q _ #[.bool true, .int .i64 0, .int .i64 (n : Int)] (0, 0) _ rfl (row3 K5'.out _ _ _) Try.underlying75 (by rfl) (by kernel_rfl)) rfl ?_
  have hf := docgo_fin (a := .bool true) (b := .int .i64 0) (c := .int .i64 (n : Int)) xW HQ.out (by have := HQ.out; omega) HG.out H5.out
  rw [updC_upd] at hf
  exact ⟨rfl, hf⟩
end Go.Proofs.Ytfjgpeffhbfihaa
