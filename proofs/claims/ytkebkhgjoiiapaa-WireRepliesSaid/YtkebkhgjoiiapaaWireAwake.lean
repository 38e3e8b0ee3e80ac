/- The wire statements' own first call answers true. -/
import Derived.Test.YtkebkhgjoiiapaaCSame
namespace Go.Proofs.Ytkebkhgjoiiapaa
open Go.RowKit

set_option maxHeartbeats 4000000 in
set_option maxRecDepth 100000 in
theorem wireAwake (w : World) : Calls Try.prog 39 #[] w (RetTrue w) := by
  go_enter Try.func39, Try.ntmps39
  go_wp2_with fail
  refine (req_example _ _ 1 (rd_new w [.int .u8 97] _)).mono ?_
  rintro e w1 ⟨A1, c1, rfl, ho1, hy1⟩
  have hx1 : Ext w w1 := ((Ext.refl w).alloc _).trans hy1
  have hc1 := own_cap ho1
  have R1 := Lib.hid (Rd.of_own ho1); clear ho1
  go_wp2_with fail
  refine (readReq_ok w1 A1 12 c1 _ [97] 1 1 2 rfl (by omega) hc1 (by decide) R1.out begins_example).mono ?_
  rintro e w2 ⟨A2, c2, rfl, ho2, hy2⟩
  have hx2 := hx1.trans hy2
  have R2 := Lib.hid (Rd.of_own ho2); clear ho2
  go_wp2_with fail
  refine (reply_example _).mono ?_
  rintro e w3 ⟨A3, c3, rfl, ho3, hy3⟩
  rw [show (repB 0 true [2, 0, 0, 100]).length = 34 from repB_len _ _ _] at ho3 ⊢
  have hc3 := own_cap ho3
  have R3 := Lib.hid (Rd.of_own ho3); clear ho3
  have hx3 : Ext w w3 := hx2.trans (((Ext.refl w2).alloc _).trans hy3)
  have K3 := Lib.hid (blk_ext (blk_new w2 (.cells #[.int .u8 1, .int .i64 1, .slice A2 1 c2, .int .i64 2] 71 (0, 0))) hy3)
  go_wp2_with fail
  refine (readRep_ok w3 A3 34 c3 0 2 0 0 100 true rfl hc3 (by omega) (by omega) (by omega) (by omega) (by omega) R3.out).mono ?_
  rintro e w4 ⟨rfl, hy4⟩
  have hx4 := hx3.trans hy4
  have R1' := Lib.hid (R1.out.ext (hy2.trans ((((Ext.refl w2).alloc _).trans hy3).trans hy4)))
  go_wp2_with fail
  refine (toE_q (same_any A1 _ 12 c1 12 12 [1, 1, 1, 97, 0, 0, 0, 0, 0, 0, 0, 2] [1, 1, 1, 97, 0, 0, 0, 0, 0, 0, 0, 2] _ rfl rfl (by omega) (by decide) (by decide) ((R1'.out.alloc _).alloc _) (rd_newk _ [.int .u8 1, .int .u8 1, .int .u8 1, .int .u8 97, .int .u8 0, .int .u8 0, .int .u8 0, .int .u8 0, .int .u8 0, .int .u8 0, .int .u8 0, .int .u8 2] _ (by simp)))).mono ?_
  rintro e w5 ⟨rfl, hy5⟩
  rw [show same [1, 1, 1, 97, 0, 0, 0, 0, 0, 0, 0, 2] [1, 1, 1, 97, 0, 0, 0, 0, 0, 0, 0, 2] = true by decide]
  have hy45 : Ext w4 w5 := (((Ext.refl w4).alloc _).alloc _).trans hy5
  have K5 := Lib.hid (blk_ext (blk_ext K3.out hy4) hy45)
  have KR := Lib.hid (blk_ext (blk_past (blk_new w4 (.cells #[.int .i64 0, .bool true, .int .i64 2, .int .i64 0, .int .i64 0, .int .i64 100] 82 (0, 0))) _) hy5)
  have R2' := Lib.hid (R2.out.ext (((((Ext.refl w2).alloc _).trans hy3).trans hy4).trans hy45))
  have hx5 := hx4.trans hy45
  have k0 := cell_past (blk_cell K5.out 0); have k1 := cell_past (blk_cell K5.out 1); have k2 := cell_past (blk_cell K5.out 2); have k3 := cell_past (blk_cell K5.out 3)
  have g0 := blk_cell K5.out 0; have g1 := blk_cell K5.out 1; have g2 := blk_cell K5.out 2; have g3 := blk_cell K5.out 3
  clear hy5 hy45 K3 R1 R1' R2 R3
  go_wp2_with fail
  refine (callSame_any _ 1 1 1 1 2 2 A2 _ 1 c2 1 1 [97] [97] rfl rfl (by omega) (by decide) (by decide) (R2'.out.alloc _) (rd_newk _ [.int .u8 97] _ (by simp))).mono ?_
  rintro e w6 ⟨rfl, hy6⟩
  rw [show decide ((1 : Int) = 1 ∧ (1 : Int) = 1 ∧ [97] = [97] ∧ (2 : Int) = 2) = true by decide]
  have hx6 : Ext w w6 := hx5.trans (((Ext.refl w5).alloc _).trans hy6)
  have KR6 := Lib.hid (blk_ext (blk_past KR.out _) hy6)
  have r0 := blk_cell KR6.out 0; have r1 := blk_cell KR6.out 1; have r2 := blk_cell KR6.out 2; have r3 := blk_cell KR6.out 3; have r4 := blk_cell KR6.out 4; have r5 := blk_cell KR6.out 5
  clear k0 k1 k2 k3 g0 g1 g2 g3 hy6
  go_wp2_with fail
  go_ret
  exact retTrue hx6
end Go.Proofs.Ytkebkhgjoiiapaa
