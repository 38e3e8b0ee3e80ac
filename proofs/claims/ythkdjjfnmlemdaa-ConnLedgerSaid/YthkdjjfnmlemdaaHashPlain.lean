/- Sums of bytes: the plain part. -/
import Derived.Test.YthkdjjfnmlemdaaBase
namespace Go.Proofs.Ythkdjjfnmlemdaa
open Go.RowKit

def stepH (h x : Nat) : Nat := (h ^^^ x) * 1099511628211 % 18446744073709551616
def upd (h : Nat) (xs : List Nat) : Nat := xs.foldl stepH h
theorem stepH_lt (h x : Nat) : stepH h x < 18446744073709551616 := by unfold stepH; omega
theorem upd_nil (h : Nat) : upd h [] = h := by rw [upd, List.foldl_nil]
theorem upd_cons (h x : Nat) (xs : List Nat) : upd h (x :: xs) = upd (stepH h x) xs := by rw [upd, List.foldl_cons, upd]
theorem upd_append (h : Nat) (xs ys : List Nat) : upd h (xs ++ ys) = upd (upd h xs) ys := by rw [upd, List.foldl_append, upd, upd]
theorem upd_snoc (h : Nat) (xs : List Nat) (x : Nat) : upd h (xs ++ [x]) = stepH (upd h xs) x := by rw [upd_append, upd_cons, upd_nil]
theorem upd_lt (h : Nat) (xs : List Nat) (hh : h < 18446744073709551616) : upd h xs < 18446744073709551616 := by
  induction xs generalizing h with
  | nil => rw [upd_nil]; exact hh
  | cons x xs ih => rw [upd_cons]; exact ih _ (stepH_lt h x)
theorem stepH_val (h x : Nat) : IntKind.u64.wrap (((h ^^^ x : Nat) : Int) * 1099511628211) = ((stepH h x : Nat) : Int) := by
  rw [IntKind.wrap_u64, stepH]; omega

theorem xor_split (H x : Nat) (hx : x < 256) : H / 256 * 256 + ((H % 256) ^^^ x) = H ^^^ x := by
  have h1 : (H ^^^ x) / 256 = H / 256 := by
    have := @Nat.xor_div_two_pow H x 8
    simp only [Nat.reducePow] at this
    rw [this, Nat.div_eq_of_lt hx, Nat.xor_zero]
  have h2 : (H ^^^ x) % 256 = (H % 256) ^^^ x := by
    have := @Nat.xor_mod_two_pow H x 8
    simp only [Nat.reducePow] at this
    rw [this, Nat.mod_eq_of_lt hx]
  omega

theorem xor_lt64 (H x : Nat) (hH : H < 18446744073709551616) (hx : x < 256) : H ^^^ x < 18446744073709551616 := by
  have := @Nat.xor_lt_two_pow H x 64 (by omega) (by omega)
  simpa using this

/-- the document's byte: its xor in halves -/
theorem refX (H x : Nat) (hH : H < 18446744073709551616) (hx : x < 256) :
    IntKind.u64.wrap ((H : Int) / 256 * 256 + IntKind.u64.wrap (bits .xor .u8 ((H : Int) % 256) (x : Int))) = ((H ^^^ x : Nat) : Int) := by
  have e : ((H : Int) % 256) = ((H % 256 : Nat) : Int) := by omega
  have h3 := xor_split H x hx
  have h4 := xor_lt64 H x hH hx
  have h5 := xor_lt64 (H % 256) x (by omega) hx
  have h6 := IntWalk.u64_in ((H % 256 ^^^ x : Nat) : Int) (by omega)
  rw [e, Go.u8_xor_nat _ _ (by omega) hx, h6, IntWalk.u64_in _ (by omega)]
  omega
theorem refStep (X : Nat) (hX : X < 18446744073709551616) :
    IntKind.u64.wrap (IntKind.u64.wrap (bits .and .u64 (X : Int) 4294967295 * 435) +
      IntKind.u64.wrap (IntKind.u64.wrap (IntKind.u64.wrap ((X : Int) / 4294967296 * 435) + IntKind.u64.wrap (bits .and .u64 (X : Int) 4294967295 * 256)) * 4294967296)) =
    ((X * 1099511628211 % 18446744073709551616 : Nat) : Int) := by
  have e : bits .and .u64 (X : Int) 4294967295 = ((X % 4294967296 : Nat) : Int) := by
    have := Go.u64_and_nat X 4294967295 hX (by omega)
    rw [show ((4294967295 : Nat) : Int) = (4294967295 : Int) from rfl] at this
    rw [this, show (4294967295 : Nat) = 2 ^ 32 - 1 from rfl, Nat.and_two_pow_sub_one_eq_mod]
  rw [e]
  simp only [IntKind.wrap_u64]
  omega
theorem refStepH (H x : Nat) (hH : H < 18446744073709551616) (hx : x < 256) {W : Int} (hW : W = ((H ^^^ x : Nat) : Int)) :
    IntKind.u64.wrap (IntKind.u64.wrap (bits .and .u64 W 4294967295 * 435) +
      IntKind.u64.wrap (IntKind.u64.wrap (IntKind.u64.wrap (W / 4294967296 * 435) + IntKind.u64.wrap (bits .and .u64 W 4294967295 * 256)) * 4294967296)) =
    ((stepH H x : Nat) : Int) := by
  rw [hW, refStep _ (xor_lt64 H x hH hx), stepH]

/-- which of 2^level shards -/
def shardN (s level : Nat) : Nat := s % 2 ^ level
theorem and_mask (X m : Nat) (hX : X < 18446744073709551616) (hm : 2 ^ m - 1 < 18446744073709551616) : bits .and .u64 (X : Int) ((2 ^ m - 1 : Nat) : Int) = ((shardN X m : Nat) : Int) := by
  rw [Go.u64_and_nat X _ hX hm, Nat.and_two_pow_sub_one_eq_mod, shardN]
theorem shardN_lt (s level : Nat) (h : level ≤ 4) : shardN s level < 16 := by
  unfold shardN
  have : level = 0 ∨ level = 1 ∨ level = 2 ∨ level = 3 ∨ level = 4 := by omega
  rcases this with rfl | rfl | rfl | rfl | rfl <;> omega
theorem mask_val {S : Nat} (m : Nat) {k : Int} (hS : S < 18446744073709551616) (hv : m ≤ 4) (hk : k = ((2 ^ m - 1 : Nat) : Int)) : wrap64 (bits .and .u64 (S : Int) k) = ((shardN S m : Nat) : Int) := by
  have h1 := shardN_lt S m hv
  have h2 : 2 ^ m - 1 < 18446744073709551616 := by
    have : m = 0 ∨ m = 1 ∨ m = 2 ∨ m = 3 ∨ m = 4 := by omega
    rcases this with rfl | rfl | rfl | rfl | rfl <;> omega
  rw [hk, and_mask S m hS h2, IntWalk.wrap64_in _ (by omega)]
theorem mod_val {S : Nat} (m : Nat) {k : Int} (hv : m ≤ 4) (hk : k = ((2 ^ m : Nat) : Int)) : wrap64 ((S : Int) % k) = ((shardN S m : Nat) : Int) := by
  have h1 := shardN_lt S m hv
  have h2 : (S : Int) % ((2 ^ m : Nat) : Int) = ((shardN S m : Nat) : Int) := by rw [shardN]; rfl
  rw [hk, h2, IntWalk.wrap64_in _ (by omega)]
end Go.Proofs.Ythkdjjfnmlemdaa
