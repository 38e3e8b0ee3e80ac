/- both Epochs nil. Printed by gen_dcq.py. -/
import Derived.Test.YtlgggeeflomelaaDcP
namespace Go.Proofs.Ytlgggeeflomelaa
open Go.RowKit

theorem dthere_nil (w : World) (who : Int) : Calls Try.prog 55 #[.pointer none, .int .i64 who] w fun e w' => e = .returned (.bool false) ∧ w = w' := by
  go_enter Try.func55, Try.ntmps55
  go_wp2
  go_ret
  exact ⟨rfl, rfl⟩
set_option maxRecDepth 100000 in
theorem epend_nil (w : World) (who : Int) : Calls Try.prog 19 #[.pointer none, .int .i64 who] w fun e w' => e = .returned (.bool false) ∧ w = w' := by
  have SB := Lib.hid (eworker_nil w who)
  go_enter Try.func19, Try.ntmps19
  go_wp2_with fail
  refine SB.out.mono ?_
  rintro e w1 ⟨rfl, rfl⟩
  go_wp2_with fail
  go_ret
  exact ⟨rfl, rfl⟩
set_option maxRecDepth 100000 in
theorem epinned_nil (w : World) (who : Int) : Calls Try.prog 15 #[.pointer none, .int .i64 who] w fun e w' => e = .returned (.bool false) ∧ w = w' := by
  have SB := Lib.hid (eworker_nil w who)
  go_enter Try.func15, Try.ntmps15
  go_wp2_with fail
  refine SB.out.mono ?_
  rintro e w1 ⟨rfl, rfl⟩
  go_wp2_with fail
  go_ret
  exact ⟨rfl, rfl⟩
set_option maxRecDepth 100000 in
theorem eheld_nil (w : World) (who : Int) : Calls Try.prog 22 #[.pointer none, .int .i64 who] w fun e w' => e = .returned (.slice none 0 0) ∧ w = w' := by
  have SB := Lib.hid (eworker_nil w who)
  go_enter Try.func22, Try.ntmps22
  go_wp2_with fail
  refine SB.out.mono ?_
  rintro e w1 ⟨rfl, rfl⟩
  go_wp2_with fail
  go_ret
  exact ⟨rfl, rfl⟩
set_option maxRecDepth 100000 in
theorem dpend_nil (w : World) (who : Int) : Calls Try.prog 27 #[.pointer none, .int .i64 who] w fun e w' => e = .returned (.bool false) ∧ w = w' := by
  have SB := Lib.hid (dthere_nil w who)
  go_enter Try.func27, Try.ntmps27
  go_wp2_with fail
  refine SB.out.mono ?_
  rintro e w1 ⟨rfl, rfl⟩
  go_wp2_with fail
  go_ret
  exact ⟨rfl, rfl⟩
set_option maxRecDepth 100000 in
theorem dpinned_nil (w : World) (who : Int) : Calls Try.prog 28 #[.pointer none, .int .i64 who] w fun e w' => e = .returned (.bool false) ∧ w = w' := by
  have SB := Lib.hid (dthere_nil w who)
  go_enter Try.func28, Try.ntmps28
  go_wp2_with fail
  refine SB.out.mono ?_
  rintro e w1 ⟨rfl, rfl⟩
  go_wp2_with fail
  go_ret
  exact ⟨rfl, rfl⟩
set_option maxRecDepth 100000 in
theorem dheld_nil (w : World) (who : Int) : Calls Try.prog 30 #[.pointer none, .int .i64 who] w fun e w' => e = .returned (.slice none 0 0) ∧ w = w' := by
  have SB := Lib.hid (dthere_nil w who)
  go_enter Try.func30, Try.ntmps30
  go_wp2_with fail
  refine SB.out.mono ?_
  rintro e w1 ⟨rfl, rfl⟩
  go_wp2_with fail
  go_ret
  exact ⟨rfl, rfl⟩
theorem eepoch_nil (w : World) : Calls Try.prog 17 #[.pointer none] w fun e w' => e = .returned (.int .i64 0) ∧ w = w' := by
  go_enter Try.func17, Try.ntmps17
  go_wp2
  go_ret
  exact ⟨rfl, rfl⟩
theorem depoch_nil (w : World) : Calls Try.prog 29 #[.pointer none] w fun e w' => e = .returned (.int .i64 0) ∧ w = w' := by
  go_enter Try.func29, Try.ntmps29
  go_wp2
  go_ret
  exact ⟨rfl, rfl⟩
set_option maxRecDepth 100000 in
theorem estart_nil (w : World) (who thing : Int) (op : Nat) (_hop : op < 256) : Calls Try.prog 16 #[.pointer none, .int .i64 who, .int .u8 (op : Int), .int .i64 thing] w fun e w' => e = .returned (.int .i64 1) ∧ w = w' := by
  have SB := Lib.hid (eworker_nil w who)
  go_enter Try.func16, Try.ntmps16
  go_wp2_with fail
  refine SB.out.mono ?_
  rintro e w1 ⟨rfl, rfl⟩
  go_wp2_with fail
  go_ret
  exact ⟨rfl, rfl⟩
set_option maxRecDepth 100000 in
theorem dstart_nil (w : World) (who thing : Int) (op : Nat) (_hop : op < 256) : Calls Try.prog 24 #[.pointer none, .int .i64 who, .int .u8 (op : Int), .int .i64 thing] w fun e w' => e = .returned (.int .i64 1) ∧ w = w' := by
  have SB := Lib.hid (dthere_nil w who)
  go_enter Try.func24, Try.ntmps24
  go_wp2_with fail
  refine SB.out.mono ?_
  rintro e w1 ⟨rfl, rfl⟩
  go_wp2_with fail
  go_ret
  exact ⟨rfl, rfl⟩
set_option maxRecDepth 100000 in
theorem estep_nil (w : World) (who : Int) : Calls Try.prog 18 #[.pointer none, .int .i64 who] w (RetE (.tuple #[.agg #[.bool false, .int .i64 0, .int .i64 0, .slice none 0 0], .int .i64 1]) w) := by
  have SB := Lib.hid (eworker_nil (w.alloc (.cells #[.bool false, .int .i64 0, .int .i64 0, .slice none 0 0] 36)) who)
  go_enter Try.func18, Try.ntmps18
  go_wp2_with fail
  refine SB.out.mono ?_
  rintro e w1 ⟨rfl, rfl⟩
  go_wp2_with fail
  refine bodyPost_ret (results_row_tmp (p := 4) (u := 5) rfl _ _ w.heap.size _ #[.bool false, .int .i64 0, .int .i64 0, .slice none 0 0] (0, 0) _ rfl (blk_new w _) Try.underlying36 (by rfl) (by kernel_rfl)) rfl ?_
  exact ⟨rfl, (Ext.refl w).alloc _⟩
set_option maxRecDepth 100000 in
theorem dstep_nil (w : World) (who : Int) : Calls Try.prog 25 #[.pointer none, .int .i64 who] w (RetE (.tuple #[.agg #[.bool false, .int .i64 0, .int .i64 0, .slice none 0 0], .int .i64 1]) w) := by
  have SB := Lib.hid (dthere_nil (w.alloc (.cells #[.bool false, .int .i64 0, .int .i64 0, .slice none 0 0] 52)) who)
  go_enter Try.func25, Try.ntmps25
  go_wp2_with fail
  refine SB.out.mono ?_
  rintro e w1 ⟨rfl, rfl⟩
  go_wp2_with fail
  refine bodyPost_ret (results_row_tmp (p := 4) (u := 5) rfl _ _ w.heap.size _ #[.bool false, .int .i64 0, .int .i64 0, .slice none 0 0] (0, 0) _ rfl (blk_new w _) Try.underlying52 (by rfl) (by kernel_rfl)) rfl ?_
  exact ⟨rfl, (Ext.refl w).alloc _⟩
end Go.Proofs.Ytlgggeeflomelaa
