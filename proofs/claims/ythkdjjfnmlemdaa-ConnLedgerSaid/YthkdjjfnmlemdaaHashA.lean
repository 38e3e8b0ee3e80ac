/- hash.Update, hash.Sum and the document's: what they answer. -/
import Derived.Test.YthkdjjfnmlemdaaProg
import Derived.Test.YthkdjjfnmlemdaaHashPlain
import Derived.Outline
import Derived.WalkLawsBesides
namespace Go.Proofs.Ythkdjjfnmlemdaa
open Go.RowKit

set_option maxHeartbeats 400000 in
theorem update_any (h : Nat) (A : Option Addr) (n c : Nat) (xs : List Nat) (w : World) (hl : xs.length = n) (hb : ∀ x ∈ xs, x < 256) (hn : n ≤ 9223372036854775807) (hh : h < 18446744073709551616) (hr : Rd w A (vals .u8 xs)) :
    Calls Try.prog 100 #[.int .u64 (h : Int), .slice A n c] w fun e w' => e = .returned (.int .u64 ((upd h xs : Nat) : Int)) ∧ w = w' := by
  have Hr := Lib.hid hr; have Hb := Lib.hid hb; have Hl := Lib.hid hl; clear hr hb hl
  go_enter Try.func100, Try.ntmps100
  go_wp2
  go_loop [0, 9] (fun h' i => ∃ k : Nat, k ≤ n ∧ i = .int .i64 k ∧ h' = .int .u64 ((upd h (xs.take k) : Nat) : Int)) (fun _ i => n - (intOf i).toNat)
  case atStart => exact ⟨0, Nat.zero_le _, rfl, rfl⟩
  case round =>
    obtain ⟨k, hk, rfl, rfl⟩ := hrel
    have hu := upd_lt h (xs.take k) hh
    by_cases hlt : k < n
    · obtain ⟨x, hx⟩ := get_of_lt (xs := xs) (j := k) (by rw [Hl.out]; exact hlt)
      have hx256 : x < 256 := Hb.out x (List.mem_of_getElem? hx)
      obtain ⟨b, off, hA, _, hc⟩ := Hr.out.at_ hx
      have Hx := Lib.hid hx; clear hx
      subst hA
      go_wp2
      go_round
      case rel => exact ⟨k + 1, by omega, by go_num, by rw [take_succ_of Hx.out, upd_snoc, ← stepH_val, Go.u64_xor_nat _ _ hu (by omega)]⟩
      case measure => simp [intOf]; omega
    · go_wp2
      go_ret
      exact ⟨ret_int (by rw [List.take_of_length_le (by rw [Hl.out]; omega)]), rfl⟩

set_option maxHeartbeats 400000 in
theorem refUpdate_any (h : Nat) (A : Option Addr) (n c : Nat) (xs : List Nat) (w : World) (hl : xs.length = n) (hb : ∀ x ∈ xs, x < 256) (hn : n ≤ 9223372036854775807) (hh : h < 18446744073709551616) (hr : Rd w A (vals .u8 xs)) :
    Calls Try.prog 108 #[.int .u64 (h : Int), .slice A n c] w fun e w' => e = .returned (.int .u64 ((upd h xs : Nat) : Int)) ∧ w = w' := by
  have Hr := Lib.hid hr; have Hb := Lib.hid hb; have Hl := Lib.hid hl; clear hr hb hl
  go_enter Try.func108, Try.ntmps108
  go_wp2
  go_loop [0, 12] (fun h' i => ∃ k : Nat, k ≤ n ∧ i = .int .i64 k ∧ h' = .int .u64 ((upd h (xs.take k) : Nat) : Int)) (fun _ i => n - (intOf i).toNat)
  case atStart => exact ⟨0, Nat.zero_le _, rfl, rfl⟩
  case round =>
    obtain ⟨k, hk, rfl, rfl⟩ := hrel
    have hu := upd_lt h (xs.take k) hh
    by_cases hlt : k < n
    · obtain ⟨x, hx⟩ := get_of_lt (xs := xs) (j := k) (by rw [Hl.out]; exact hlt)
      have hx256 : x < 256 := Hb.out x (List.mem_of_getElem? hx)
      obtain ⟨b, off, hA, _, hc⟩ := Hr.out.at_ hx
      have Hx := Lib.hid hx; clear hx
      subst hA
      go_wp2
      go_round
      case rel => exact ⟨k + 1, by omega, by go_num, int_eq (by rw [take_succ_of Hx.out, upd_snoc]; exact refStepH _ x hu hx256 (refX _ x hu hx256))⟩
      case measure => simp [intOf]; omega
    · go_wp2
      go_ret
      exact ⟨ret_int (by rw [List.take_of_length_le (by rw [Hl.out]; omega)]), rfl⟩

theorem sum_any (A : Option Addr) (n c : Nat) (xs : List Nat) (w : World) (hl : xs.length = n) (hb : ∀ x ∈ xs, x < 256) (hn : n ≤ 9223372036854775807) (hr : Rd w A (vals .u8 xs)) :
    Calls Try.prog 67 #[.slice A n c] w fun e w' => e = .returned (.int .u64 ((upd 14695981039346656037 xs : Nat) : Int)) ∧ w = w' := by
  have c1 := Lib.hid (update_any 14695981039346656037 A n c xs w hl hb hn (by omega) hr)
  clear hr hb hl
  go_enter Try.func67, Try.ntmps67
  go_wp2_with fail
  refine c1.out.mono ?_
  rintro e w' ⟨rfl, rfl⟩
  go_wp2
  go_ret
  exact ⟨rfl, rfl⟩
theorem refSum_any (A : Option Addr) (n c : Nat) (xs : List Nat) (w : World) (hl : xs.length = n) (hb : ∀ x ∈ xs, x < 256) (hn : n ≤ 9223372036854775807) (hr : Rd w A (vals .u8 xs)) :
    Calls Try.prog 101 #[.slice A n c] w fun e w' => e = .returned (.int .u64 ((upd 14695981039346656037 xs : Nat) : Int)) ∧ w = w' := by
  have c1 := Lib.hid (refUpdate_any 14695981039346656037 A n c xs w hl hb hn (by omega) hr)
  clear hr hb hl
  go_enter Try.func101, Try.ntmps101
  go_wp2_with fail
  refine c1.out.mono ?_
  rintro e w' ⟨rfl, rfl⟩
  go_wp2
  go_ret
  exact ⟨rfl, rfl⟩
end Go.Proofs.Ythkdjjfnmlemdaa
