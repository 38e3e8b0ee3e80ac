/- tick: Form, Clamp, Add. -/
import Derived.Test.YtlgggeeflomelaaProg
import Derived.Test.YtlgggeeflomelaaBase3
import Derived.Outline
import Derived.BigQuiet
import Derived.WalkLawsBesides
namespace Go.Proofs.Ytlgggeeflomelaa
open Go.RowKit

theorem tform_ok (N : Int) (w : World) (h : 0 ≤ N) (h' : N ≤ 4611686018427387903) : Calls Try.prog 64 #[.int .i64 N] w fun e w' => e = .returned (.bool true) ∧ w = w' := by
  go_enter Try.func64, Try.ntmps64
  go_wp2
  go_ret
  exact ⟨rfl, rfl⟩
theorem tform_bad (N : Int) (w : World) (h : N < 0 ∨ 4611686018427387903 < N) : Calls Try.prog 64 #[.int .i64 N] w fun e w' => e = .returned (.bool false) ∧ w = w' := by
  by_cases h0 : N < 0
  · go_enter Try.func64, Try.ntmps64
    go_wp2
    go_ret
    exact ⟨rfl, rfl⟩
  · have h1 : ¬ N ≤ 4611686018427387903 := by omega
    go_enter Try.func64, Try.ntmps64
    go_wp2
    go_ret
    exact ⟨rfl, rfl⟩
theorem tclamp_any (N : Int) (w : World) (h : 0 ≤ N) (h' : N ≤ 9223372036854775807) : Calls Try.prog 117 #[.int .i64 N] w fun e w' => e = .returned (.int .i64 (min N 4611686018427387903)) ∧ w = w' := by
  by_cases h1 : N ≤ 4611686018427387903
  · rw [show min N 4611686018427387903 = N by omega]
    go_enter Try.func117, Try.ntmps117
    go_wp2
    go_ret
    exact ⟨ret_int (by omega), rfl⟩
  · rw [show min N 4611686018427387903 = 4611686018427387903 by omega]
    go_enter Try.func117, Try.ntmps117
    go_wp2
    go_ret
    exact ⟨ret_int (by omega), rfl⟩
theorem tboth_ok (a b : Int) (w : World) (h : 0 ≤ a) (h' : a ≤ 4611686018427387903) (k : 0 ≤ b) (k' : b ≤ 4611686018427387903) : Calls Try.prog 116 #[.int .i64 a, .int .i64 b] w fun e w' => e = .returned (.int .i64 0) ∧ w = w' := by
  go_enter Try.func116, Try.ntmps116
  go_wp2
  go_ret
  exact ⟨rfl, rfl⟩
theorem tadd_ok (a b : Int) (w : World) (h : 0 ≤ a) (h' : a ≤ 4611686018427387903) (k : 0 ≤ b) (k' : b ≤ 4611686018427387903) : Calls Try.prog 111 #[.int .i64 a, .int .i64 b] w fun e w' => e = .returned (.tuple #[.int .i64 (min (a + b) 4611686018427387903), .int .i64 0]) ∧ w = w' := by
  go_enter Try.func111, Try.ntmps111
  go_wp2_with fail
  refine (tboth_ok a b w h h' k k').mono ?_
  rintro e w1 ⟨rfl, rfl⟩
  go_wp2_with fail
  refine (tclamp_any (a + b) w (by omega) (by omega)).mono ?_
  rintro e w1 ⟨rfl, rfl⟩
  go_wp2_with fail
  go_ret2
  exact ⟨rfl, rfl⟩
end Go.Proofs.Ytlgggeeflomelaa
