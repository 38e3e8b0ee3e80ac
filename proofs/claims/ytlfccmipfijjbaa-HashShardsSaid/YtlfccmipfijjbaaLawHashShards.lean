/- HashShards answers true: every Shard is the document's. -/
import Derived.Test.YtlfccmipfijjbaaHashAwake
namespace Go.Proofs.Ytlfccmipfijjbaa
open Go.RowKit

set_option maxHeartbeats 1000000 in
theorem hashShards_walk (w : World) (A : Option Addr) (n c : Nat) (xs : List Nat) (hl : xs.length = n) (hb : ∀ x ∈ xs, x < 256) (hr : Rd w A (vals .u8 xs)) (_hnc : n ≤ c) (hz : n ≤ 140737488351232)
    (level : Int) (_h1 : -9223372036854775808 ≤ level) (_h2 : level ≤ 9223372036854775807) :
    Calls Try.prog 4 #[.slice A n c, .int .i64 level] w (RetTrue w) := by
  have Hr := Lib.hid hr; clear hr
  have Hl := Lib.hid hl; clear hl
  have Hb := Lib.hid hb; clear hb
  by_cases hv : 0 ≤ level ∧ level ≤ 4
  · obtain ⟨h0, h4⟩ := hv
    obtain ⟨l, rfl⟩ := Int.eq_ofNat_of_zero_le h0
    have hl4 : l ≤ 4 := by omega
    clear h0 h4
    go_enter Try.func4, Try.ntmps4
    go_wp2_with fail
    refine (toE_q (shard_ok A n c xs l w Hl.out Hb.out (by omega) Hr.out hl4)).mono ?_
    rintro e w1 ⟨rfl, hx1⟩
    go_wp2_with fail
    refine (toE_eq (refDocShard_ok A n c xs l w1 Hl.out Hb.out (by omega) (Hr.out.ext hx1) hl4)).mono ?_
    rintro e w2 ⟨rfl, hx2⟩
    go_wp2_with fail
    refine (awake_any w2).mono ?_
    rintro e w3 ⟨rfl, hx3⟩
    go_wp2_with fail
    go_ret
    exact retTrue (hx1.trans (hx2.trans hx3))
  · have hv' : level < 0 ∨ 4 < level := by omega
    go_enter Try.func4, Try.ntmps4
    go_wp2_with fail
    refine (toE_eq (shard_bad A n c level w hv')).mono ?_
    rintro e w1 ⟨rfl, hx1⟩
    go_wp2_with fail
    refine (toE_eq (refDocShard_bad A n c level w1 hv')).mono ?_
    rintro e w2 ⟨rfl, hx2⟩
    go_wp2_with fail
    refine (awake_any w2).mono ?_
    rintro e w3 ⟨rfl, hx3⟩
    go_wp2_with fail
    go_ret
    exact retTrue (hx1.trans (hx2.trans hx3))
end Go.Proofs.Ytlfccmipfijjbaa
