/- spigotref12: DocStep, the other ways. -/
import Derived.Test.YtfjgpeffhbfihaaRefCnt3
namespace Go.Proofs.Ytfjgpeffhbfihaa
open Go.RowKit

set_option maxHeartbeats 2000000 in
set_option maxRecDepth 100000 in
theorem dstep_full (w : World) (gd lim n st who x : Nat) (C : Nat → Nat × Bool × Nat) (h : DocAt w gd lim n st C) (hw : who < 64) (hC : C who = (1, false, x)) (hst : st ≤ 1000000) (hnl : n = lim) :
    Calls Try.prog 30 #[.pointer (some ⟨gd, 0, none⟩), .int .i64 (who : Int)] w fun e w' => e = .returned (.tuple #[.agg #[.bool true, .int .i64 10, .int .i64 0], .int .i64 0]) ∧ DocGo w gd lim n (st + 1) (updC C who (0, false, 0)) w' := by
  have a3 : (0 : Int) ≤ (who : Int) := by omega
  have a4 : (who : Int) < 64 := by omega
  have e9 : ((n : Int) == (lim : Int)) = true := by rw [beq_iff_eq]; omega
  clear hnl
  obtain ⟨W0, hW0⟩ : ∃ W, w.alloc (.cells #[.bool false, .int .i64 0, .int .i64 0] 75) = W := ⟨_, rfl⟩
  have xW : Ext w W0 := by rw [← hW0]; exact (Ext.refl w).alloc _
  obtain ⟨q, hq⟩ : ∃ q, w.heap.size = q := ⟨_, rfl⟩
  have KR := Lib.hid (show W0.heap[q]? = some (.cells #[.bool false, .int .i64 0, .int .i64 0] 75 (0, 0)) by rw [← hW0]; exact blk_newk w _ hq)
  have HQ := Lib.hid hq
  have hgd := h.lt
  have HD0 := Lib.hid (h.ext xW)
  have G0 : GB W0 W0 (· = gd) := GB.refl _ _
  have nq1 : ¬ gd = q := by omega
  have nq2 : ¬ q = gd := by omega
  obtain ⟨c0_0, c1_0, c2_0, c3_0, c4_0, c5_0, cf_0⟩ := HD0.out.cells hw
  rw [hC] at c3_0 c4_0 c5_0
  have f1_0 := cf_0 1; have f2_0 := cf_0 2; have f3_0 := cf_0 (3 + who * 3); have f4_0 := cf_0 (3 + who * 3 + 1); have f5_0 := cf_0 (3 + who * 3 + 2)
  clear cf_0
  obtain ⟨W1, hW1⟩ : ∃ W, W0.setCell ⟨gd, 2, none⟩ (.int .i64 ((st : Int) + 1)) = W := ⟨_, rfl⟩
  have HD1 := Lib.hid (show DocAt W1 gd lim n (st + 1) C by rw [← hW1]; exact HD0.out.setSt (st + 1))
  have G1 : GB W0 W1 (· = gd) := by rw [← hW1]; exact G0.set gd _ _ (.inl rfl)
  obtain ⟨c0_1, c1_1, c2_1, c3_1, c4_1, c5_1, cf_1⟩ := HD1.out.cells hw
  rw [hC] at c3_1 c4_1 c5_1
  have f1_1 := cf_1 1; have f2_1 := cf_1 2; have f3_1 := cf_1 (3 + who * 3); have f4_1 := cf_1 (3 + who * 3 + 1); have f5_1 := cf_1 (3 + who * 3 + 2)
  clear cf_1
  obtain ⟨W2, hW2⟩ : ∃ W, W1.setCell ⟨gd, 3 + who * 3 + 1, none⟩ (.bool true) = W := ⟨_, rfl⟩
  have HD2 := Lib.hid (show DocAt W2 gd lim n (st + 1) (updC C who (1, true, x)) by rw [← hW2]; have h9 := HD1.out.setRd hw true; rw [hC] at h9; exact h9)
  have G2 : GB W0 W2 (· = gd) := by rw [← hW2]; exact G1.set gd _ _ (.inl rfl)
  obtain ⟨c0_2, c1_2, c2_2, c3_2, c4_2, c5_2, cf_2⟩ := HD2.out.cells hw
  rw [updC_self] at c3_2 c4_2 c5_2
  have f1_2 := cf_2 1; have f2_2 := cf_2 2; have f3_2 := cf_2 (3 + who * 3); have f4_2 := cf_2 (3 + who * 3 + 1); have f5_2 := cf_2 (3 + who * 3 + 2)
  clear cf_2
  obtain ⟨W3, hW3⟩ : ∃ W, W2.setCell ⟨gd, 3 + who * 3 + 2, none⟩ (.int .i64 (n : Int)) = W := ⟨_, rfl⟩
  have HD3 := Lib.hid (show DocAt W3 gd lim n (st + 1) (updC C who (1, true, n)) by rw [← hW3]; have h9 := HD2.out.setNum hw n; rw [updC_self, updC_upd] at h9; exact h9)
  have G3 : GB W0 W3 (· = gd) := by rw [← hW3]; exact G2.set gd _ _ (.inl rfl)
  obtain ⟨c0_3, c1_3, c2_3, c3_3, c4_3, c5_3, cf_3⟩ := HD3.out.cells hw
  rw [updC_self] at c3_3 c4_3 c5_3
  have f1_3 := cf_3 1; have f2_3 := cf_3 2; have f3_3 := cf_3 (3 + who * 3); have f4_3 := cf_3 (3 + who * 3 + 1); have f5_3 := cf_3 (3 + who * 3 + 2)
  clear cf_3
  clear h
  have KL3 := Lib.hid (blk_grown' KR.out G3 nq2)
  have r0 := blk_cell KL3.out 0; have r1 := blk_cell KL3.out 1; have r2 := blk_cell KL3.out 2
  have z0 := blk_frozen KL3.out 0; have z1 := blk_frozen KL3.out 1; have z2 := blk_frozen KL3.out 2
  go_enter Try.func30, Try.ntmps30
  go_wp2_with fail
  (try rw [hW0])
  (try rw [hq])
  refine (rworker_ok _ who a3 a4).mono ?_
  rintro e w1 ⟨rfl, rfl⟩
  go_wp2_with fail
  go_quiet (fail)
  obtain ⟨U, hU⟩ : ∃ U, W3.drewN nq = U := ⟨_, rfl⟩
  have xU : Ext W3 U := by rw [← hU]; exact (Ext.refl W3).drewN nq
  have HD9 := Lib.hid (HD3.out.ext xU)
  have G9 : GB W0 U (· = gd) := G3.ext xU
  obtain ⟨c0_9, c1_9, c2_9, c3_9, c4_9, c5_9, cf_9⟩ := HD9.out.cells hw
  rw [updC_self] at c3_9 c4_9 c5_9
  have f1_9 := cf_9 1; have f2_9 := cf_9 2; have f3_9 := cf_9 (3 + who * 3); have f4_9 := cf_9 (3 + who * 3 + 1); have f5_9 := cf_9 (3 + who * 3 + 2)
  clear cf_9
  have KL9 := Lib.hid (blk_grown' KR.out G9 nq2)
  have r0 := blk_cell KL9.out 0; have r1 := blk_cell KL9.out 1; have r2 := blk_cell KL9.out 2
  have z0 := blk_frozen KL9.out 0; have z1 := blk_frozen KL9.out 1; have z2 := blk_frozen KL9.out 2
  (try rw [hU])
  clear hU
  go_wp2_with fail
  have HG := Lib.hid G9
  refine (dend_any U gd lim n (st + 1) who _ 10 0 HD9.out hw).mono ?_
  rintro e w5 ⟨rfl, h5⟩
  have K5 := h5.2.blk KL9.out nq2
  have s0 := blk_cell K5 0; have s1 := blk_cell K5 1; have s2 := blk_cell K5 2
  have y0 := blk_frozen K5 0; have y1 := blk_frozen K5 1; have y2 := blk_frozen K5 2
  have H5 := Lib.hid h5; have K5' := Lib.hid K5
  clear h5 K5
  go_wp2_with fail
  refine bodyPost_ret (results_row_tmp (p := 4) (u := 5) rfl _ _ q _ #[.bool true, .int .i64 10, .int .i64 0] (0, 0) _ rfl (row3 K5'.out _ _ _) Try.underlying75 (by rfl) (by kernel_rfl)) rfl ?_
  have hf := docgo_fin (a := .bool true) (b := .int .i64 10) (c := .int .i64 0) xW HQ.out (by have := HQ.out; omega) HG.out H5.out
  rw [updC_upd] at hf
  exact ⟨rfl, hf⟩
set_option maxHeartbeats 2000000 in
set_option maxRecDepth 100000 in
theorem dstep_range (w : World) (gd lim n st who x : Nat) (C : Nat → Nat × Bool × Nat) (h : DocAt w gd lim n st C) (hw : who < 64) (hC : C who = (2, false, x)) (hst : st ≤ 1000000) (hnl : n = 0) :
    Calls Try.prog 30 #[.pointer (some ⟨gd, 0, none⟩), .int .i64 (who : Int)] w fun e w' => e = .returned (.tuple #[.agg #[.bool true, .int .i64 5, .int .i64 0], .int .i64 0]) ∧ DocGo w gd lim n (st + 1) (updC C who (0, false, 0)) w' := by
  have a3 : (0 : Int) ≤ (who : Int) := by omega
  have a4 : (who : Int) < 64 := by omega
  have e9 : ((n : Int) == 0) = true := by rw [beq_iff_eq]; omega
  have e8 : decide ((2 : Int) = 1) = false := by decide
  clear hnl
  obtain ⟨W0, hW0⟩ : ∃ W, w.alloc (.cells #[.bool false, .int .i64 0, .int .i64 0] 75) = W := ⟨_, rfl⟩
  have xW : Ext w W0 := by rw [← hW0]; exact (Ext.refl w).alloc _
  obtain ⟨q, hq⟩ : ∃ q, w.heap.size = q := ⟨_, rfl⟩
  have KR := Lib.hid (show W0.heap[q]? = some (.cells #[.bool false, .int .i64 0, .int .i64 0] 75 (0, 0)) by rw [← hW0]; exact blk_newk w _ hq)
  have HQ := Lib.hid hq
  have hgd := h.lt
  have HD0 := Lib.hid (h.ext xW)
  have G0 : GB W0 W0 (· = gd) := GB.refl _ _
  have nq1 : ¬ gd = q := by omega
  have nq2 : ¬ q = gd := by omega
  obtain ⟨c0_0, c1_0, c2_0, c3_0, c4_0, c5_0, cf_0⟩ := HD0.out.cells hw
  rw [hC] at c3_0 c4_0 c5_0
  have f1_0 := cf_0 1; have f2_0 := cf_0 2; have f3_0 := cf_0 (3 + who * 3); have f4_0 := cf_0 (3 + who * 3 + 1); have f5_0 := cf_0 (3 + who * 3 + 2)
  clear cf_0
  obtain ⟨W1, hW1⟩ : ∃ W, W0.setCell ⟨gd, 2, none⟩ (.int .i64 ((st : Int) + 1)) = W := ⟨_, rfl⟩
  have HD1 := Lib.hid (show DocAt W1 gd lim n (st + 1) C by rw [← hW1]; exact HD0.out.setSt (st + 1))
  have G1 : GB W0 W1 (· = gd) := by rw [← hW1]; exact G0.set gd _ _ (.inl rfl)
  obtain ⟨c0_1, c1_1, c2_1, c3_1, c4_1, c5_1, cf_1⟩ := HD1.out.cells hw
  rw [hC] at c3_1 c4_1 c5_1
  have f1_1 := cf_1 1; have f2_1 := cf_1 2; have f3_1 := cf_1 (3 + who * 3); have f4_1 := cf_1 (3 + who * 3 + 1); have f5_1 := cf_1 (3 + who * 3 + 2)
  clear cf_1
  obtain ⟨W2, hW2⟩ : ∃ W, W1.setCell ⟨gd, 3 + who * 3 + 1, none⟩ (.bool true) = W := ⟨_, rfl⟩
  have HD2 := Lib.hid (show DocAt W2 gd lim n (st + 1) (updC C who (2, true, x)) by rw [← hW2]; have h9 := HD1.out.setRd hw true; rw [hC] at h9; exact h9)
  have G2 : GB W0 W2 (· = gd) := by rw [← hW2]; exact G1.set gd _ _ (.inl rfl)
  obtain ⟨c0_2, c1_2, c2_2, c3_2, c4_2, c5_2, cf_2⟩ := HD2.out.cells hw
  rw [updC_self] at c3_2 c4_2 c5_2
  have f1_2 := cf_2 1; have f2_2 := cf_2 2; have f3_2 := cf_2 (3 + who * 3); have f4_2 := cf_2 (3 + who * 3 + 1); have f5_2 := cf_2 (3 + who * 3 + 2)
  clear cf_2
  obtain ⟨W3, hW3⟩ : ∃ W, W2.setCell ⟨gd, 3 + who * 3 + 2, none⟩ (.int .i64 (n : Int)) = W := ⟨_, rfl⟩
  have HD3 := Lib.hid (show DocAt W3 gd lim n (st + 1) (updC C who (2, true, n)) by rw [← hW3]; have h9 := HD2.out.setNum hw n; rw [updC_self, updC_upd] at h9; exact h9)
  have G3 : GB W0 W3 (· = gd) := by rw [← hW3]; exact G2.set gd _ _ (.inl rfl)
  obtain ⟨c0_3, c1_3, c2_3, c3_3, c4_3, c5_3, cf_3⟩ := HD3.out.cells hw
  rw [updC_self] at c3_3 c4_3 c5_3
  have f1_3 := cf_3 1; have f2_3 := cf_3 2; have f3_3 := cf_3 (3 + who * 3); have f4_3 := cf_3 (3 + who * 3 + 1); have f5_3 := cf_3 (3 + who * 3 + 2)
  clear cf_3
  clear h
  have KL3 := Lib.hid (blk_grown' KR.out G3 nq2)
  have r0 := blk_cell KL3.out 0; have r1 := blk_cell KL3.out 1; have r2 := blk_cell KL3.out 2
  have z0 := blk_frozen KL3.out 0; have z1 := blk_frozen KL3.out 1; have z2 := blk_frozen KL3.out 2
  go_enter Try.func30, Try.ntmps30
  go_wp2_with fail
  (try rw [hW0])
  (try rw [hq])
  refine (rworker_ok _ who a3 a4).mono ?_
  rintro e w1 ⟨rfl, rfl⟩
  go_wp2_with fail
  go_quiet (fail)
  obtain ⟨U, hU⟩ : ∃ U, W3.drewN nq = U := ⟨_, rfl⟩
  have xU : Ext W3 U := by rw [← hU]; exact (Ext.refl W3).drewN nq
  have HD9 := Lib.hid (HD3.out.ext xU)
  have G9 : GB W0 U (· = gd) := G3.ext xU
  obtain ⟨c0_9, c1_9, c2_9, c3_9, c4_9, c5_9, cf_9⟩ := HD9.out.cells hw
  rw [updC_self] at c3_9 c4_9 c5_9
  have f1_9 := cf_9 1; have f2_9 := cf_9 2; have f3_9 := cf_9 (3 + who * 3); have f4_9 := cf_9 (3 + who * 3 + 1); have f5_9 := cf_9 (3 + who * 3 + 2)
  clear cf_9
  have KL9 := Lib.hid (blk_grown' KR.out G9 nq2)
  have r0 := blk_cell KL9.out 0; have r1 := blk_cell KL9.out 1; have r2 := blk_cell KL9.out 2
  have z0 := blk_frozen KL9.out 0; have z1 := blk_frozen KL9.out 1; have z2 := blk_frozen KL9.out 2
  (try rw [hU])
  clear hU
  go_wp2_with fail
  have HG := Lib.hid G9
  refine (dend_any U gd lim n (st + 1) who _ 5 0 HD9.out hw).mono ?_
  rintro e w5 ⟨rfl, h5⟩
  have K5 := h5.2.blk KL9.out nq2
  have s0 := blk_cell K5 0; have s1 := blk_cell K5 1; have s2 := blk_cell K5 2
  have y0 := blk_frozen K5 0; have y1 := blk_frozen K5 1; have y2 := blk_frozen K5 2
  have H5 := Lib.hid h5; have K5' := Lib.hid K5
  clear h5 K5
  go_wp2_with fail
  refine bodyPost_ret (results_row_tmp (p := 4) (u := 5) rfl _ _ q _ #[.bool true, .int .i64 5, .int .i64 0] (0, 0) _ rfl (row3 K5'.out _ _ _) Try.underlying75 (by rfl) (by kernel_rfl)) rfl ?_
  have hf := docgo_fin (a := .bool true) (b := .int .i64 5) (c := .int .i64 0) xW HQ.out (by have := HQ.out; omega) HG.out H5.out
  rw [updC_upd] at hf
  exact ⟨rfl, hf⟩
set_option maxHeartbeats 2000000 in
set_option maxRecDepth 100000 in
theorem dstep_up (w : World) (gd lim n st who x : Nat) (C : Nat → Nat × Bool × Nat) (h : DocAt w gd lim n st C) (hw : who < 64) (hC : C who = (1, false, x)) (hst : st ≤ 1000000) (hnl : n ≠ lim) :
    Calls Try.prog 30 #[.pointer (some ⟨gd, 0, none⟩), .int .i64 (who : Int)] w fun e w' => e = .returned (.tuple #[.agg #[.bool false, .int .i64 0, .int .i64 0], .int .i64 0]) ∧ DocGo w gd lim n (st + 1) (updC C who (1, true, n)) w' := by
  have a3 : (0 : Int) ≤ (who : Int) := by omega
  have a4 : (who : Int) < 64 := by omega
  have e9 : ((n : Int) == (lim : Int)) = false := by rw [beq_eq_false_iff_ne]; omega
  clear hnl
  obtain ⟨W0, hW0⟩ : ∃ W, w.alloc (.cells #[.bool false, .int .i64 0, .int .i64 0] 75) = W := ⟨_, rfl⟩
  have xW : Ext w W0 := by rw [← hW0]; exact (Ext.refl w).alloc _
  obtain ⟨q, hq⟩ : ∃ q, w.heap.size = q := ⟨_, rfl⟩
  have KR := Lib.hid (show W0.heap[q]? = some (.cells #[.bool false, .int .i64 0, .int .i64 0] 75 (0, 0)) by rw [← hW0]; exact blk_newk w _ hq)
  have HQ := Lib.hid hq
  have hgd := h.lt
  have HD0 := Lib.hid (h.ext xW)
  have G0 : GB W0 W0 (· = gd) := GB.refl _ _
  have nq1 : ¬ gd = q := by omega
  have nq2 : ¬ q = gd := by omega
  obtain ⟨c0_0, c1_0, c2_0, c3_0, c4_0, c5_0, cf_0⟩ := HD0.out.cells hw
  rw [hC] at c3_0 c4_0 c5_0
  have f1_0 := cf_0 1; have f2_0 := cf_0 2; have f3_0 := cf_0 (3 + who * 3); have f4_0 := cf_0 (3 + who * 3 + 1); have f5_0 := cf_0 (3 + who * 3 + 2)
  clear cf_0
  obtain ⟨W1, hW1⟩ : ∃ W, W0.setCell ⟨gd, 2, none⟩ (.int .i64 ((st : Int) + 1)) = W := ⟨_, rfl⟩
  have HD1 := Lib.hid (show DocAt W1 gd lim n (st + 1) C by rw [← hW1]; exact HD0.out.setSt (st + 1))
  have G1 : GB W0 W1 (· = gd) := by rw [← hW1]; exact G0.set gd _ _ (.inl rfl)
  obtain ⟨c0_1, c1_1, c2_1, c3_1, c4_1, c5_1, cf_1⟩ := HD1.out.cells hw
  rw [hC] at c3_1 c4_1 c5_1
  have f1_1 := cf_1 1; have f2_1 := cf_1 2; have f3_1 := cf_1 (3 + who * 3); have f4_1 := cf_1 (3 + who * 3 + 1); have f5_1 := cf_1 (3 + who * 3 + 2)
  clear cf_1
  obtain ⟨W2, hW2⟩ : ∃ W, W1.setCell ⟨gd, 3 + who * 3 + 1, none⟩ (.bool true) = W := ⟨_, rfl⟩
  have HD2 := Lib.hid (show DocAt W2 gd lim n (st + 1) (updC C who (1, true, x)) by rw [← hW2]; have h9 := HD1.out.setRd hw true; rw [hC] at h9; exact h9)
  have G2 : GB W0 W2 (· = gd) := by rw [← hW2]; exact G1.set gd _ _ (.inl rfl)
  obtain ⟨c0_2, c1_2, c2_2, c3_2, c4_2, c5_2, cf_2⟩ := HD2.out.cells hw
  rw [updC_self] at c3_2 c4_2 c5_2
  have f1_2 := cf_2 1; have f2_2 := cf_2 2; have f3_2 := cf_2 (3 + who * 3); have f4_2 := cf_2 (3 + who * 3 + 1); have f5_2 := cf_2 (3 + who * 3 + 2)
  clear cf_2
  obtain ⟨W3, hW3⟩ : ∃ W, W2.setCell ⟨gd, 3 + who * 3 + 2, none⟩ (.int .i64 (n : Int)) = W := ⟨_, rfl⟩
  have HD3 := Lib.hid (show DocAt W3 gd lim n (st + 1) (updC C who (1, true, n)) by rw [← hW3]; have h9 := HD2.out.setNum hw n; rw [updC_self, updC_upd] at h9; exact h9)
  have G3 : GB W0 W3 (· = gd) := by rw [← hW3]; exact G2.set gd _ _ (.inl rfl)
  obtain ⟨c0_3, c1_3, c2_3, c3_3, c4_3, c5_3, cf_3⟩ := HD3.out.cells hw
  rw [updC_self] at c3_3 c4_3 c5_3
  have f1_3 := cf_3 1; have f2_3 := cf_3 2; have f3_3 := cf_3 (3 + who * 3); have f4_3 := cf_3 (3 + who * 3 + 1); have f5_3 := cf_3 (3 + who * 3 + 2)
  clear cf_3
  clear h
  have KL3 := Lib.hid (blk_grown' KR.out G3 nq2)
  have r0 := blk_cell KL3.out 0; have r1 := blk_cell KL3.out 1; have r2 := blk_cell KL3.out 2
  have z0 := blk_frozen KL3.out 0; have z1 := blk_frozen KL3.out 1; have z2 := blk_frozen KL3.out 2
  go_enter Try.func30, Try.ntmps30
  go_wp2_with fail
  (try rw [hW0])
  (try rw [hq])
  refine (rworker_ok _ who a3 a4).mono ?_
  rintro e w1 ⟨rfl, rfl⟩
  go_wp2_with fail
  go_quiet (fail)
  obtain ⟨U, hU⟩ : ∃ U, W3.drewN nq = U := ⟨_, rfl⟩
  have xU : Ext W3 U := by rw [← hU]; exact (Ext.refl W3).drewN nq
  have HD9 := Lib.hid (HD3.out.ext xU)
  have G9 : GB W0 U (· = gd) := G3.ext xU
  obtain ⟨c0_9, c1_9, c2_9, c3_9, c4_9, c5_9, cf_9⟩ := HD9.out.cells hw
  rw [updC_self] at c3_9 c4_9 c5_9
  have f1_9 := cf_9 1; have f2_9 := cf_9 2; have f3_9 := cf_9 (3 + who * 3); have f4_9 := cf_9 (3 + who * 3 + 1); have f5_9 := cf_9 (3 + who * 3 + 2)
  clear cf_9
  have KL9 := Lib.hid (blk_grown' KR.out G9 nq2)
  have r0 := blk_cell KL9.out 0; have r1 := blk_cell KL9.out 1; have r2 := blk_cell KL9.out 2
  have z0 := blk_frozen KL9.out 0; have z1 := blk_frozen KL9.out 1; have z2 := blk_frozen KL9.out 2
  (try rw [hU])
  clear hU
  go_wp2_with fail
  have HG := Lib.hid G9
  refine bodyPost_ret (results_row_tmp (p := 4) (u := 5) rfl _ _ q _ #[.bool false, .int .i64 0, .int .i64 0] (0, 0) _ rfl (row3 KL9.out _ _ _) Try.underlying75 (by rfl) (by kernel_rfl)) rfl ?_
  have hf := docgo_fin (a := .bool false) (b := .int .i64 0) (c := .int .i64 0) xW HQ.out (by have := HQ.out; omega) HG.out ⟨HD9.out, GB.refl _ _⟩
  exact ⟨rfl, hf⟩
set_option maxHeartbeats 2000000 in
set_option maxRecDepth 100000 in
theorem dstep_down (w : World) (gd lim n st who x : Nat) (C : Nat → Nat × Bool × Nat) (h : DocAt w gd lim n st C) (hw : who < 64) (hC : C who = (2, false, x)) (hst : st ≤ 1000000) (hnl : n ≠ 0) :
    Calls Try.prog 30 #[.pointer (some ⟨gd, 0, none⟩), .int .i64 (who : Int)] w fun e w' => e = .returned (.tuple #[.agg #[.bool false, .int .i64 0, .int .i64 0], .int .i64 0]) ∧ DocGo w gd lim n (st + 1) (updC C who (2, true, n)) w' := by
  have a3 : (0 : Int) ≤ (who : Int) := by omega
  have a4 : (who : Int) < 64 := by omega
  have e9 : ((n : Int) == 0) = false := by rw [beq_eq_false_iff_ne]; omega
  clear hnl
  obtain ⟨W0, hW0⟩ : ∃ W, w.alloc (.cells #[.bool false, .int .i64 0, .int .i64 0] 75) = W := ⟨_, rfl⟩
  have xW : Ext w W0 := by rw [← hW0]; exact (Ext.refl w).alloc _
  obtain ⟨q, hq⟩ : ∃ q, w.heap.size = q := ⟨_, rfl⟩
  have KR := Lib.hid (show W0.heap[q]? = some (.cells #[.bool false, .int .i64 0, .int .i64 0] 75 (0, 0)) by rw [← hW0]; exact blk_newk w _ hq)
  have HQ := Lib.hid hq
  have hgd := h.lt
  have HD0 := Lib.hid (h.ext xW)
  have G0 : GB W0 W0 (· = gd) := GB.refl _ _
  have nq1 : ¬ gd = q := by omega
  have nq2 : ¬ q = gd := by omega
  obtain ⟨c0_0, c1_0, c2_0, c3_0, c4_0, c5_0, cf_0⟩ := HD0.out.cells hw
  rw [hC] at c3_0 c4_0 c5_0
  have f1_0 := cf_0 1; have f2_0 := cf_0 2; have f3_0 := cf_0 (3 + who * 3); have f4_0 := cf_0 (3 + who * 3 + 1); have f5_0 := cf_0 (3 + who * 3 + 2)
  clear cf_0
  obtain ⟨W1, hW1⟩ : ∃ W, W0.setCell ⟨gd, 2, none⟩ (.int .i64 ((st : Int) + 1)) = W := ⟨_, rfl⟩
  have HD1 := Lib.hid (show DocAt W1 gd lim n (st + 1) C by rw [← hW1]; exact HD0.out.setSt (st + 1))
  have G1 : GB W0 W1 (· = gd) := by rw [← hW1]; exact G0.set gd _ _ (.inl rfl)
  obtain ⟨c0_1, c1_1, c2_1, c3_1, c4_1, c5_1, cf_1⟩ := HD1.out.cells hw
  rw [hC] at c3_1 c4_1 c5_1
  have f1_1 := cf_1 1; have f2_1 := cf_1 2; have f3_1 := cf_1 (3 + who * 3); have f4_1 := cf_1 (3 + who * 3 + 1); have f5_1 := cf_1 (3 + who * 3 + 2)
  clear cf_1
  obtain ⟨W2, hW2⟩ : ∃ W, W1.setCell ⟨gd, 3 + who * 3 + 1, none⟩ (.bool true) = W := ⟨_, rfl⟩
  have HD2 := Lib.hid (show DocAt W2 gd lim n (st + 1) (updC C who (2, true, x)) by rw [← hW2]; have h9 := HD1.out.setRd hw true; rw [hC] at h9; exact h9)
  have G2 : GB W0 W2 (· = gd) := by rw [← hW2]; exact G1.set gd _ _ (.inl rfl)
  obtain ⟨c0_2, c1_2, c2_2, c3_2, c4_2, c5_2, cf_2⟩ := HD2.out.cells hw
  rw [updC_self] at c3_2 c4_2 c5_2
  have f1_2 := cf_2 1; have f2_2 := cf_2 2; have f3_2 := cf_2 (3 + who * 3); have f4_2 := cf_2 (3 + who * 3 + 1); have f5_2 := cf_2 (3 + who * 3 + 2)
  clear cf_2
  obtain ⟨W3, hW3⟩ : ∃ W, W2.setCell ⟨gd, 3 + who * 3 + 2, none⟩ (.int .i64 (n : Int)) = W := ⟨_, rfl⟩
  have HD3 := Lib.hid (show DocAt W3 gd lim n (st + 1) (updC C who (2, true, n)) by rw [← hW3]; have h9 := HD2.out.setNum hw n; rw [updC_self, updC_upd] at h9; exact h9)
  have G3 : GB W0 W3 (· = gd) := by rw [← hW3]; exact G2.set gd _ _ (.inl rfl)
  obtain ⟨c0_3, c1_3, c2_3, c3_3, c4_3, c5_3, cf_3⟩ := HD3.out.cells hw
  rw [updC_self] at c3_3 c4_3 c5_3
  have f1_3 := cf_3 1; have f2_3 := cf_3 2; have f3_3 := cf_3 (3 + who * 3); have f4_3 := cf_3 (3 + who * 3 + 1); have f5_3 := cf_3 (3 + who * 3 + 2)
  clear cf_3
  clear h
  have KL3 := Lib.hid (blk_grown' KR.out G3 nq2)
  have r0 := blk_cell KL3.out 0; have r1 := blk_cell KL3.out 1; have r2 := blk_cell KL3.out 2
  have z0 := blk_frozen KL3.out 0; have z1 := blk_frozen KL3.out 1; have z2 := blk_frozen KL3.out 2
  go_enter Try.func30, Try.ntmps30
  go_wp2_with fail
  (try rw [hW0])
  (try rw [hq])
  refine (rworker_ok _ who a3 a4).mono ?_
  rintro e w1 ⟨rfl, rfl⟩
  go_wp2_with fail
  go_quiet (fail)
  obtain ⟨U, hU⟩ : ∃ U, W3.drewN nq = U := ⟨_, rfl⟩
  have xU : Ext W3 U := by rw [← hU]; exact (Ext.refl W3).drewN nq
  have HD9 := Lib.hid (HD3.out.ext xU)
  have G9 : GB W0 U (· = gd) := G3.ext xU
  obtain ⟨c0_9, c1_9, c2_9, c3_9, c4_9, c5_9, cf_9⟩ := HD9.out.cells hw
  rw [updC_self] at c3_9 c4_9 c5_9
  have f1_9 := cf_9 1; have f2_9 := cf_9 2; have f3_9 := cf_9 (3 + who * 3); have f4_9 := cf_9 (3 + who * 3 + 1); have f5_9 := cf_9 (3 + who * 3 + 2)
  clear cf_9
  have KL9 := Lib.hid (blk_grown' KR.out G9 nq2)
  have r0 := blk_cell KL9.out 0; have r1 := blk_cell KL9.out 1; have r2 := blk_cell KL9.out 2
  have z0 := blk_frozen KL9.out 0; have z1 := blk_frozen KL9.out 1; have z2 := blk_frozen KL9.out 2
  (try rw [hU])
  clear hU
  go_wp2_with fail
  have HG := Lib.hid G9
  refine bodyPost_ret (results_row_tmp (p := 4) (u := 5) rfl _ _ q _ #[.bool false, .int .i64 0, .int .i64 0] (0, 0) _ rfl (row3 KL9.out _ _ _) Try.underlying75 (by rfl) (by kernel_rfl)) rfl ?_
  have hf := docgo_fin (a := .bool false) (b := .int .i64 0) (c := .int .i64 0) xW HQ.out (by have := HQ.out; omega) HG.out ⟨HD9.out, GB.refl _ _⟩
  exact ⟨rfl, hf⟩
set_option maxHeartbeats 2000000 in
set_option maxRecDepth 100000 in
theorem dstep_miss (w : World) (gd lim n st who op x : Nat) (C : Nat → Nat × Bool × Nat) (h : DocAt w gd lim n st C) (hw : who < 64) (hC : C who = (op, true, x)) (hst : st ≤ 1000000) (hop : 1 ≤ op) (_ : op ≤ 2) (hnx : n ≠ x) :
    Calls Try.prog 30 #[.pointer (some ⟨gd, 0, none⟩), .int .i64 (who : Int)] w fun e w' => e = .returned (.tuple #[.agg #[.bool false, .int .i64 0, .int .i64 0], .int .i64 0]) ∧ DocGo w gd lim n (st + 1) (updC C who (op, false, x)) w' := by
  have a3 : (0 : Int) ≤ (who : Int) := by omega
  have a4 : (who : Int) < 64 := by omega
  have e9 : ((n : Int) == (x : Int)) = false := by rw [beq_eq_false_iff_ne]; omega
  have e8 : ((n : Int) != (x : Int)) = true := by rw [bne_iff_ne]; omega
  have e7 : ((op : Int) == 0) = false := by rw [beq_eq_false_iff_ne]; omega
  clear hnx
  obtain ⟨W0, hW0⟩ : ∃ W, w.alloc (.cells #[.bool false, .int .i64 0, .int .i64 0] 75) = W := ⟨_, rfl⟩
  have xW : Ext w W0 := by rw [← hW0]; exact (Ext.refl w).alloc _
  obtain ⟨q, hq⟩ : ∃ q, w.heap.size = q := ⟨_, rfl⟩
  have KR := Lib.hid (show W0.heap[q]? = some (.cells #[.bool false, .int .i64 0, .int .i64 0] 75 (0, 0)) by rw [← hW0]; exact blk_newk w _ hq)
  have HQ := Lib.hid hq
  have hgd := h.lt
  have HD0 := Lib.hid (h.ext xW)
  have G0 : GB W0 W0 (· = gd) := GB.refl _ _
  have nq1 : ¬ gd = q := by omega
  have nq2 : ¬ q = gd := by omega
  obtain ⟨c0_0, c1_0, c2_0, c3_0, c4_0, c5_0, cf_0⟩ := HD0.out.cells hw
  rw [hC] at c3_0 c4_0 c5_0
  have f1_0 := cf_0 1; have f2_0 := cf_0 2; have f3_0 := cf_0 (3 + who * 3); have f4_0 := cf_0 (3 + who * 3 + 1); have f5_0 := cf_0 (3 + who * 3 + 2)
  clear cf_0
  obtain ⟨W1, hW1⟩ : ∃ W, W0.setCell ⟨gd, 2, none⟩ (.int .i64 ((st : Int) + 1)) = W := ⟨_, rfl⟩
  have HD1 := Lib.hid (show DocAt W1 gd lim n (st + 1) C by rw [← hW1]; exact HD0.out.setSt (st + 1))
  have G1 : GB W0 W1 (· = gd) := by rw [← hW1]; exact G0.set gd _ _ (.inl rfl)
  obtain ⟨c0_1, c1_1, c2_1, c3_1, c4_1, c5_1, cf_1⟩ := HD1.out.cells hw
  rw [hC] at c3_1 c4_1 c5_1
  have f1_1 := cf_1 1; have f2_1 := cf_1 2; have f3_1 := cf_1 (3 + who * 3); have f4_1 := cf_1 (3 + who * 3 + 1); have f5_1 := cf_1 (3 + who * 3 + 2)
  clear cf_1
  clear h
  have KL1 := Lib.hid (blk_grown' KR.out G1 nq2)
  have r0 := blk_cell KL1.out 0; have r1 := blk_cell KL1.out 1; have r2 := blk_cell KL1.out 2
  have z0 := blk_frozen KL1.out 0; have z1 := blk_frozen KL1.out 1; have z2 := blk_frozen KL1.out 2
  go_enter Try.func30, Try.ntmps30
  go_wp2_with fail
  (try rw [hW0])
  (try rw [hq])
  refine (rworker_ok _ who a3 a4).mono ?_
  rintro e w1 ⟨rfl, rfl⟩
  go_wp2_with fail
  go_quiet (fail)
  obtain ⟨U, hU⟩ : ∃ U, W1.drewN nq = U := ⟨_, rfl⟩
  have xU : Ext W1 U := by rw [← hU]; exact (Ext.refl W1).drewN nq
  have HD9 := Lib.hid (HD1.out.ext xU)
  have G9 : GB W0 U (· = gd) := G1.ext xU
  obtain ⟨c0_9, c1_9, c2_9, c3_9, c4_9, c5_9, cf_9⟩ := HD9.out.cells hw
  rw [hC] at c3_9 c4_9 c5_9
  have f1_9 := cf_9 1; have f2_9 := cf_9 2; have f3_9 := cf_9 (3 + who * 3); have f4_9 := cf_9 (3 + who * 3 + 1); have f5_9 := cf_9 (3 + who * 3 + 2)
  clear cf_9
  have KL9 := Lib.hid (blk_grown' KR.out G9 nq2)
  have r0 := blk_cell KL9.out 0; have r1 := blk_cell KL9.out 1; have r2 := blk_cell KL9.out 2
  have z0 := blk_frozen KL9.out 0; have z1 := blk_frozen KL9.out 1; have z2 := blk_frozen KL9.out 2
  obtain ⟨V1, hV1⟩ : ∃ W, U.setCell ⟨gd, 3 + who * 3 + 1, none⟩ (.bool false) = W := ⟨_, rfl⟩
  have HD8 := Lib.hid (show DocAt V1 gd lim n (st + 1) (updC C who (op, false, x)) by rw [← hV1]; have h9 := HD9.out.setRd hw false; rw [hC] at h9; exact h9)
  have G8 : GB W0 V1 (· = gd) := by rw [← hV1]; exact G9.set gd _ _ (.inl rfl)
  obtain ⟨c0_8, c1_8, c2_8, c3_8, c4_8, c5_8, cf_8⟩ := HD8.out.cells hw
  rw [updC_self] at c3_8 c4_8 c5_8
  have f1_8 := cf_8 1; have f2_8 := cf_8 2; have f3_8 := cf_8 (3 + who * 3); have f4_8 := cf_8 (3 + who * 3 + 1); have f5_8 := cf_8 (3 + who * 3 + 2)
  clear cf_8
  have KL8 := Lib.hid (blk_grown' KR.out G8 nq2)
  have r0 := blk_cell KL8.out 0; have r1 := blk_cell KL8.out 1; have r2 := blk_cell KL8.out 2
  have z0 := blk_frozen KL8.out 0; have z1 := blk_frozen KL8.out 1; have z2 := blk_frozen KL8.out 2
  have HG := Lib.hid G8
  (try rw [hU])
  clear hU
  go_wp2_with fail
  refine bodyPost_ret (results_row_tmp (p := 4) (u := 5) rfl _ _ q _ #[.bool false, .int .i64 0, .int .i64 0] (0, 0) _ rfl (row3 KL8.out _ _ _) Try.underlying75 (by rfl) (by kernel_rfl)) rfl ?_
  have hf := docgo_fin (a := .bool false) (b := .int .i64 0) (c := .int .i64 0) xW HQ.out (by have := HQ.out; omega) HG.out ⟨HD8.out, GB.refl _ _⟩
  exact ⟨rfl, hf⟩
set_option maxHeartbeats 2000000 in
set_option maxRecDepth 100000 in
theorem dstep_inc (w : World) (gd lim n st who : Nat) (C : Nat → Nat × Bool × Nat) (h : DocAt w gd lim n st C) (hw : who < 64) (hC : C who = (1, true, n)) (hst : st ≤ 1000000) (hn : (n : Int) ≤ 4611686018427387903) :
    Calls Try.prog 30 #[.pointer (some ⟨gd, 0, none⟩), .int .i64 (who : Int)] w fun e w' => e = .returned (.tuple #[.agg #[.bool true, .int .i64 0, .int .i64 ((n : Int) + 1)], .int .i64 0]) ∧ DocGo w gd lim (n + 1) (st + 1) (updC C who (0, false, 0)) w' := by
  have a3 : (0 : Int) ≤ (who : Int) := by omega
  have a4 : (who : Int) < 64 := by omega
  obtain ⟨W0, hW0⟩ : ∃ W, w.alloc (.cells #[.bool false, .int .i64 0, .int .i64 0] 75) = W := ⟨_, rfl⟩
  have xW : Ext w W0 := by rw [← hW0]; exact (Ext.refl w).alloc _
  obtain ⟨q, hq⟩ : ∃ q, w.heap.size = q := ⟨_, rfl⟩
  have KR := Lib.hid (show W0.heap[q]? = some (.cells #[.bool false, .int .i64 0, .int .i64 0] 75 (0, 0)) by rw [← hW0]; exact blk_newk w _ hq)
  have HQ := Lib.hid hq
  have hgd := h.lt
  have HD0 := Lib.hid (h.ext xW)
  have G0 : GB W0 W0 (· = gd) := GB.refl _ _
  have nq1 : ¬ gd = q := by omega
  have nq2 : ¬ q = gd := by omega
  obtain ⟨c0_0, c1_0, c2_0, c3_0, c4_0, c5_0, cf_0⟩ := HD0.out.cells hw
  rw [hC] at c3_0 c4_0 c5_0
  have f1_0 := cf_0 1; have f2_0 := cf_0 2; have f3_0 := cf_0 (3 + who * 3); have f4_0 := cf_0 (3 + who * 3 + 1); have f5_0 := cf_0 (3 + who * 3 + 2)
  clear cf_0
  obtain ⟨W1, hW1⟩ : ∃ W, W0.setCell ⟨gd, 2, none⟩ (.int .i64 ((st : Int) + 1)) = W := ⟨_, rfl⟩
  have HD1 := Lib.hid (show DocAt W1 gd lim n (st + 1) C by rw [← hW1]; exact HD0.out.setSt (st + 1))
  have G1 : GB W0 W1 (· = gd) := by rw [← hW1]; exact G0.set gd _ _ (.inl rfl)
  obtain ⟨c0_1, c1_1, c2_1, c3_1, c4_1, c5_1, cf_1⟩ := HD1.out.cells hw
  rw [hC] at c3_1 c4_1 c5_1
  have f1_1 := cf_1 1; have f2_1 := cf_1 2; have f3_1 := cf_1 (3 + who * 3); have f4_1 := cf_1 (3 + who * 3 + 1); have f5_1 := cf_1 (3 + who * 3 + 2)
  clear cf_1
  clear h
  have KL1 := Lib.hid (blk_grown' KR.out G1 nq2)
  have r0 := blk_cell KL1.out 0; have r1 := blk_cell KL1.out 1; have r2 := blk_cell KL1.out 2
  have z0 := blk_frozen KL1.out 0; have z1 := blk_frozen KL1.out 1; have z2 := blk_frozen KL1.out 2
  go_enter Try.func30, Try.ntmps30
  go_wp2_with fail
  (try rw [hW0])
  (try rw [hq])
  refine (rworker_ok _ who a3 a4).mono ?_
  rintro e w1 ⟨rfl, rfl⟩
  go_wp2_with fail
  go_quiet (fail)
  obtain ⟨U, hU⟩ : ∃ U, W1.drewN nq = U := ⟨_, rfl⟩
  have xU : Ext W1 U := by rw [← hU]; exact (Ext.refl W1).drewN nq
  have HD9 := Lib.hid (HD1.out.ext xU)
  have G9 : GB W0 U (· = gd) := G1.ext xU
  obtain ⟨c0_9, c1_9, c2_9, c3_9, c4_9, c5_9, cf_9⟩ := HD9.out.cells hw
  rw [hC] at c3_9 c4_9 c5_9
  have f1_9 := cf_9 1; have f2_9 := cf_9 2; have f3_9 := cf_9 (3 + who * 3); have f4_9 := cf_9 (3 + who * 3 + 1); have f5_9 := cf_9 (3 + who * 3 + 2)
  clear cf_9
  have KL9 := Lib.hid (blk_grown' KR.out G9 nq2)
  have r0 := blk_cell KL9.out 0; have r1 := blk_cell KL9.out 1; have r2 := blk_cell KL9.out 2
  have z0 := blk_frozen KL9.out 0; have z1 := blk_frozen KL9.out 1; have z2 := blk_frozen KL9.out 2
  obtain ⟨V1, hV1⟩ : ∃ W, U.setCell ⟨gd, 1, none⟩ (.int .i64 ((n : Int) + 1)) = W := ⟨_, rfl⟩
  have HD8 := Lib.hid (show DocAt V1 gd lim (n + 1) (st + 1) C by rw [← hV1]; exact HD9.out.setN (n + 1))
  have G8 : GB W0 V1 (· = gd) := by rw [← hV1]; exact G9.set gd _ _ (.inl rfl)
  obtain ⟨c0_8, c1_8, c2_8, c3_8, c4_8, c5_8, cf_8⟩ := HD8.out.cells hw
  rw [hC] at c3_8 c4_8 c5_8
  have c1_8' : V1.cell? ⟨gd, 1, none⟩ = some (.int .i64 ((n : Int) + 1)) := c1_8
  clear c1_8
  have f1_8 := cf_8 1; have f2_8 := cf_8 2; have f3_8 := cf_8 (3 + who * 3); have f4_8 := cf_8 (3 + who * 3 + 1); have f5_8 := cf_8 (3 + who * 3 + 2)
  clear cf_8
  have KL8 := Lib.hid (blk_grown' KR.out G8 nq2)
  have r0 := blk_cell KL8.out 0; have r1 := blk_cell KL8.out 1; have r2 := blk_cell KL8.out 2
  have z0 := blk_frozen KL8.out 0; have z1 := blk_frozen KL8.out 1; have z2 := blk_frozen KL8.out 2
  (try rw [hU])
  clear hU
  go_wp2_with fail
  have HG := Lib.hid G8
  refine (dend_any V1 gd lim (n + 1) (st + 1) who _ 0 ((n : Int) + 1) HD8.out hw).mono ?_
  rintro e w5 ⟨rfl, h5⟩
  have K5 := h5.2.blk KL8.out nq2
  have s0 := blk_cell K5 0; have s1 := blk_cell K5 1; have s2 := blk_cell K5 2
  have y0 := blk_frozen K5 0; have y1 := blk_frozen K5 1; have y2 := blk_frozen K5 2
  have H5 := Lib.hid h5; have K5' := Lib.hid K5
  clear h5 K5
  go_wp2_with fail
  refine bodyPost_ret (results_row_tmp (p := 4) (u := 5) rfl _ _ q _ #[.bool true, .int .i64 0, .int .i64 ((n : Int) + 1)] (0, 0) _ rfl (row3 K5'.out _ _ _) Try.underlying75 (by rfl) (by kernel_rfl)) rfl ?_
  have hf := docgo_fin (a := .bool true) (b := .int .i64 0) (c := .int .i64 ((n : Int) + 1)) xW HQ.out (by have := HQ.out; omega) HG.out H5.out
  exact ⟨rfl, hf⟩
set_option maxHeartbeats 2000000 in
set_option maxRecDepth 100000 in
theorem dstep_dec (w : World) (gd lim n st who n' : Nat) (C : Nat → Nat × Bool × Nat) (h : DocAt w gd lim n st C) (hw : who < 64) (hC : C who = (2, true, n)) (hst : st ≤ 1000000) (hn : (n : Int) ≤ 4611686018427387903) (hnn : n = n' + 1) :
    Calls Try.prog 30 #[.pointer (some ⟨gd, 0, none⟩), .int .i64 (who : Int)] w fun e w' => e = .returned (.tuple #[.agg #[.bool true, .int .i64 0, .int .i64 (n' : Int)], .int .i64 0]) ∧ DocGo w gd lim n' (st + 1) (updC C who (0, false, 0)) w' := by
  have a3 : (0 : Int) ≤ (who : Int) := by omega
  have a4 : (who : Int) < 64 := by omega
  have e9 : (n : Int) + 1 - 2 = (n' : Int) := by omega
  have HNN := Lib.hid hnn
  clear hnn
  obtain ⟨W0, hW0⟩ : ∃ W, w.alloc (.cells #[.bool false, .int .i64 0, .int .i64 0] 75) = W := ⟨_, rfl⟩
  have xW : Ext w W0 := by rw [← hW0]; exact (Ext.refl w).alloc _
  obtain ⟨q, hq⟩ : ∃ q, w.heap.size = q := ⟨_, rfl⟩
  have KR := Lib.hid (show W0.heap[q]? = some (.cells #[.bool false, .int .i64 0, .int .i64 0] 75 (0, 0)) by rw [← hW0]; exact blk_newk w _ hq)
  have HQ := Lib.hid hq
  have hgd := h.lt
  have HD0 := Lib.hid (h.ext xW)
  have G0 : GB W0 W0 (· = gd) := GB.refl _ _
  have nq1 : ¬ gd = q := by omega
  have nq2 : ¬ q = gd := by omega
  obtain ⟨c0_0, c1_0, c2_0, c3_0, c4_0, c5_0, cf_0⟩ := HD0.out.cells hw
  rw [hC] at c3_0 c4_0 c5_0
  have f1_0 := cf_0 1; have f2_0 := cf_0 2; have f3_0 := cf_0 (3 + who * 3); have f4_0 := cf_0 (3 + who * 3 + 1); have f5_0 := cf_0 (3 + who * 3 + 2)
  clear cf_0
  obtain ⟨W1, hW1⟩ : ∃ W, W0.setCell ⟨gd, 2, none⟩ (.int .i64 ((st : Int) + 1)) = W := ⟨_, rfl⟩
  have HD1 := Lib.hid (show DocAt W1 gd lim n (st + 1) C by rw [← hW1]; exact HD0.out.setSt (st + 1))
  have G1 : GB W0 W1 (· = gd) := by rw [← hW1]; exact G0.set gd _ _ (.inl rfl)
  obtain ⟨c0_1, c1_1, c2_1, c3_1, c4_1, c5_1, cf_1⟩ := HD1.out.cells hw
  rw [hC] at c3_1 c4_1 c5_1
  have f1_1 := cf_1 1; have f2_1 := cf_1 2; have f3_1 := cf_1 (3 + who * 3); have f4_1 := cf_1 (3 + who * 3 + 1); have f5_1 := cf_1 (3 + who * 3 + 2)
  clear cf_1
  clear h
  have KL1 := Lib.hid (blk_grown' KR.out G1 nq2)
  have r0 := blk_cell KL1.out 0; have r1 := blk_cell KL1.out 1; have r2 := blk_cell KL1.out 2
  have z0 := blk_frozen KL1.out 0; have z1 := blk_frozen KL1.out 1; have z2 := blk_frozen KL1.out 2
  go_enter Try.func30, Try.ntmps30
  go_wp2_with fail
  (try rw [hW0])
  (try rw [hq])
  refine (rworker_ok _ who a3 a4).mono ?_
  rintro e w1 ⟨rfl, rfl⟩
  go_wp2_with fail
  go_quiet (fail)
  obtain ⟨U, hU⟩ : ∃ U, W1.drewN nq = U := ⟨_, rfl⟩
  have xU : Ext W1 U := by rw [← hU]; exact (Ext.refl W1).drewN nq
  have HD9 := Lib.hid (HD1.out.ext xU)
  have G9 : GB W0 U (· = gd) := G1.ext xU
  obtain ⟨c0_9, c1_9, c2_9, c3_9, c4_9, c5_9, cf_9⟩ := HD9.out.cells hw
  rw [hC] at c3_9 c4_9 c5_9
  have f1_9 := cf_9 1; have f2_9 := cf_9 2; have f3_9 := cf_9 (3 + who * 3); have f4_9 := cf_9 (3 + who * 3 + 1); have f5_9 := cf_9 (3 + who * 3 + 2)
  clear cf_9
  have KL9 := Lib.hid (blk_grown' KR.out G9 nq2)
  have r0 := blk_cell KL9.out 0; have r1 := blk_cell KL9.out 1; have r2 := blk_cell KL9.out 2
  have z0 := blk_frozen KL9.out 0; have z1 := blk_frozen KL9.out 1; have z2 := blk_frozen KL9.out 2
  obtain ⟨V1, hV1⟩ : ∃ W, U.setCell ⟨gd, 1, none⟩ (.int .i64 ((n : Int) + 1)) = W := ⟨_, rfl⟩
  have HD8 := Lib.hid (show DocAt V1 gd lim (n + 1) (st + 1) C by rw [← hV1]; exact HD9.out.setN (n + 1))
  have G8 : GB W0 V1 (· = gd) := by rw [← hV1]; exact G9.set gd _ _ (.inl rfl)
  obtain ⟨c0_8, c1_8, c2_8, c3_8, c4_8, c5_8, cf_8⟩ := HD8.out.cells hw
  rw [hC] at c3_8 c4_8 c5_8
  have c1_8' : V1.cell? ⟨gd, 1, none⟩ = some (.int .i64 ((n : Int) + 1)) := c1_8
  clear c1_8
  have f1_8 := cf_8 1; have f2_8 := cf_8 2; have f3_8 := cf_8 (3 + who * 3); have f4_8 := cf_8 (3 + who * 3 + 1); have f5_8 := cf_8 (3 + who * 3 + 2)
  clear cf_8
  obtain ⟨V2, hV2⟩ : ∃ W, V1.setCell ⟨gd, 1, none⟩ (.int .i64 (n' : Int)) = W := ⟨_, rfl⟩
  have HD7 := Lib.hid (show DocAt V2 gd lim n' (st + 1) C by rw [← hV2]; exact HD8.out.setN n')
  have G7 : GB W0 V2 (· = gd) := by rw [← hV2]; exact G8.set gd _ _ (.inl rfl)
  obtain ⟨c0_7, c1_7, c2_7, c3_7, c4_7, c5_7, cf_7⟩ := HD7.out.cells hw
  rw [hC] at c3_7 c4_7 c5_7
  have f1_7 := cf_7 1; have f2_7 := cf_7 2; have f3_7 := cf_7 (3 + who * 3); have f4_7 := cf_7 (3 + who * 3 + 1); have f5_7 := cf_7 (3 + who * 3 + 2)
  clear cf_7
  have KL7 := Lib.hid (blk_grown' KR.out G7 nq2)
  have r0 := blk_cell KL7.out 0; have r1 := blk_cell KL7.out 1; have r2 := blk_cell KL7.out 2
  have z0 := blk_frozen KL7.out 0; have z1 := blk_frozen KL7.out 1; have z2 := blk_frozen KL7.out 2
  (try rw [hU])
  clear hU
  go_wp2_with fail
  have HG := Lib.hid G7
  refine (dend_any V2 gd lim n' (st + 1) who _ 0 (n' : Int) HD7.out hw).mono ?_
  rintro e w5 ⟨rfl, h5⟩
  have K5 := h5.2.blk KL7.out nq2
  have s0 := blk_cell K5 0; have s1 := blk_cell K5 1; have s2 := blk_cell K5 2
  have y0 := blk_frozen K5 0; have y1 := blk_frozen K5 1; have y2 := blk_frozen K5 2
  have H5 := Lib.hid h5; have K5' := Lib.hid K5
  clear h5 K5
  go_wp2_with fail
  refine bodyPost_ret (results_row_tmp (p := 4) (u := 5) rfl _ _ q _ #[.bool true, .int .i64 0, .int .i64 (n' : Int)] (0, 0) _ rfl (row3 K5'.out _ _ _) Try.underlying75 (by rfl) (by kernel_rfl)) rfl ?_
  have hf := docgo_fin (a := .bool true) (b := .int .i64 0) (c := .int .i64 (n' : Int)) xW HQ.out (by have := HQ.out; omega) HG.out H5.out
  exact ⟨rfl, hf⟩
end Go.Proofs.Ytfjgpeffhbfihaa
