/- HashHalves answers true: a shard of a level is cut into two of the next one. -/
import Derived.Test.YtlfccmipfijjbaaHashAwake
namespace Go.Proofs.Ytlfccmipfijjbaa
open Go.RowKit

theorem shard_half (S l : Nat) : shardN S (l + 1) = shardN S l ∨ shardN S (l + 1) = shardN S l + 2 ^ l := by
  unfold shardN
  have h1 : S % 2 ^ (l + 1) = S % 2 ^ l + 2 ^ l * (S / 2 ^ l % 2) := by
    rw [Nat.pow_succ, Nat.mod_mul]
  rcases Nat.mod_two_eq_zero_or_one (S / 2 ^ l) with h | h <;> rw [h1, h] <;> omega

set_option maxHeartbeats 4000000 in
theorem hashHalves_walk (w : World) (A : Option Addr) (n c : Nat) (xs : List Nat) (hl : xs.length = n) (hb : ∀ x ∈ xs, x < 256) (hr : Rd w A (vals .u8 xs)) (_hnc : n ≤ c) (hz : n ≤ 140737488351232) :
    Calls Try.prog 7 #[.slice A n c] w (RetTrue w) := by
  have c1 := Lib.hid (fun w1 (hx : Ext w w1) (l : Nat) (h4 : l ≤ 4) => toE_q (shard_ok A n c xs l w1 hl hb (by omega) (hr.ext hx) h4))
  clear hl hb hr
  generalize upd 14695981039346656037 xs = S at *
  go_enter Try.func7, Try.ntmps7
  go_wp2_with fail
  refine (awake_any w).mono ?_
  rintro e w1 ⟨rfl, hx1⟩
  go_wp2_with fail
  refine (c1.out w1 hx1 0 (by omega)).mono ?_
  rintro e w2 ⟨rfl, hx2⟩
  have hx2 := hx1.trans hx2
  have e0 : shardN S 0 = 0 := by unfold shardN; omega
  rw [e0]
  go_wp2_with fail
  go_loopw [3, 5] (fun last lv wr => ∃ l : Nat, l ≤ 4 ∧ lv = .int .i64 ((l + 1 : Nat) : Int) ∧ last = .int .i64 ((shardN S l : Nat) : Int) ∧ Ext w wr) (fun _ lv _ => 5 - (intOf lv).toNat)
  case atStart => exact ⟨0, by omega, rfl, by rw [e0]; rfl, hx2⟩
  case round =>
    obtain ⟨l, hl4, rfl, rfl, hx⟩ := hrel
    by_cases hlt : l < 4
    · have hh := shard_half S l
      have hs := shardN_lt S l hl4
      have hs' := shardN_lt S (l + 1) (by omega)
      have C1 := Lib.hid (c1.out wr hx (l + 1) (by omega))
      generalize shardN S l = a at *
      generalize hbq : shardN S (l + 1) = b at *
      have Hbq := Lib.hid hbq; clear hbq
      have hl : l = 0 ∨ l = 1 ∨ l = 2 ∨ l = 3 := by omega
      rcases hl with rfl | rfl | rfl | rfl <;> rcases hh with rfl | rfl
      all_goals
        go_wp2_with fail
        refine C1.out.mono ?_
        rintro e w3 ⟨rfl, hx3⟩
        have hx3 := hx.trans hx3
        go_wp2_with fail
        go_roundw
        case rel => exact ⟨_, by omega, rfl, by first | (rw [Hbq.out]; done) | (rw [Hbq.out]; go_num), hx3⟩
        case measure => simp [intOf]
    · obtain rfl : l = 4 := by omega
      go_wp2_with fail
      refine (toE_eq (shard_bad A n c 5 wr (by omega))).mono ?_
      rintro e w3 ⟨rfl, hx3⟩
      go_wp2_with fail
      go_ret
      exact retTrue (hx.trans hx3)
end Go.Proofs.Ytlfccmipfijjbaa
