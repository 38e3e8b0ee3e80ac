/- HashSums answers true: every Sum and Update is the document's. -/
import Derived.Test.YtlfccmipfijjbaaHashAwake
namespace Go.Proofs.Ytlfccmipfijjbaa
open Go.RowKit

set_option maxHeartbeats 1000000 in
theorem hashSums_walk (w : World) (h : Nat) (hh : h < 18446744073709551616) (A : Option Addr) (n c : Nat) (xs : List Nat) (hl : xs.length = n) (hb : ∀ x ∈ xs, x < 256) (hr : Rd w A (vals .u8 xs)) (_hnc : n ≤ c) (hz : n ≤ 140737488351232) :
    Calls Try.prog 3 #[.int .u64 (h : Int), .slice A n c] w (RetTrue w) := by
  have Hr := Lib.hid hr; clear hr
  have Hl := Lib.hid hl; clear hl
  have Hb := Lib.hid hb; clear hb
  go_enter Try.func3, Try.ntmps3
  go_wp2_with fail
  refine (awake_any w).mono ?_
  rintro e w1 ⟨rfl, hx1⟩
  have Hr1 := Lib.hid (Hr.out.ext hx1)
  go_wp2_with fail
  refine (sum_any A n c xs w1 Hl.out Hb.out (by omega) Hr1.out).mono ?_
  rintro e w2 ⟨rfl, rfl⟩
  go_wp2_with fail
  refine (refSum_any A n c xs w1 Hl.out Hb.out (by omega) Hr1.out).mono ?_
  rintro e w2 ⟨rfl, rfl⟩
  go_wp2_with fail
  refine (update_any h A n c xs w1 Hl.out Hb.out (by omega) hh Hr1.out).mono ?_
  rintro e w2 ⟨rfl, rfl⟩
  go_wp2_with fail
  refine (refUpdate_any h A n c xs w1 Hl.out Hb.out (by omega) hh Hr1.out).mono ?_
  rintro e w2 ⟨rfl, rfl⟩
  go_wp2_with fail
  go_ret
  exact retTrue hx1
end Go.Proofs.Ytlfccmipfijjbaa
