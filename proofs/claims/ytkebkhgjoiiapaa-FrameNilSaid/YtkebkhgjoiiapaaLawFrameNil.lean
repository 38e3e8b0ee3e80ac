/- FrameNil answers true. -/
import Derived.Test.YtkebkhgjoiiapaaFrAwake
namespace Go.Proofs.Ytkebkhgjoiiapaa
open Go.RowKit

set_option maxHeartbeats 1000000 in
theorem frameNil_walk (w : World) (A : Option Addr) (n c : Nat) (xs : List Nat) (_hl : xs.length = n) (_hb : ∀ x ∈ xs, x < 256) (_hr : Rd w A (vals .u8 xs)) (_hnc : n ≤ c) (_hz : n ≤ 140737488351232) :
    Calls Try.prog 5 #[.slice A n c] w (RetTrue w) := by
  go_enter Try.func5, Try.ntmps5
  go_wp2_with fail
  refine (feed_nil w A n c).mono ?_
  rintro e w1 ⟨rfl, rfl⟩
  go_wp2_with fail
  refine (end_nil w).mono ?_
  rintro e w1 ⟨rfl, rfl⟩
  go_wp2_with fail
  refine (frAwake w).mono ?_
  rintro e w1 ⟨rfl, hx1⟩
  go_wp2_with fail
  refine (waiting_nil w1).mono ?_
  rintro e w2 ⟨rfl, rfl⟩
  go_wp2_with fail
  go_ret
  exact retTrue hx1
end Go.Proofs.Ytkebkhgjoiiapaa
