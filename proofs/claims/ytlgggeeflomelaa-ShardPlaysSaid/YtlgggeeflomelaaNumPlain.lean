/- Numbers as digits, the lowest first. No program in sight. -/
import Derived.Test.YtlgggeeflomelaaBase3
namespace Go.Proofs.Ytlgggeeflomelaa
open Go.RowKit

def numD : List Nat → Nat
  | [] => 0
  | d :: ds => d + 4294967296 * numD ds
theorem numD_append (xs ys : List Nat) : numD (xs ++ ys) = numD xs + 4294967296 ^ xs.length * numD ys := by
  induction xs with
  | nil => simp [numD]
  | cons x xs ih =>
    rw [List.cons_append, numD, ih, numD, List.length_cons, Nat.pow_succ, Nat.mul_add, Nat.mul_comm (4294967296 ^ xs.length) 4294967296, Nat.mul_assoc]
    omega
theorem numD_snoc (xs : List Nat) (d : Nat) : numD (xs ++ [d]) = numD xs + 4294967296 ^ xs.length * d := by rw [numD_append]; simp [numD]
theorem numD_zero (xs : List Nat) (h : ∀ d ∈ xs, d = 0) : numD xs = 0 := by
  induction xs with
  | nil => rfl
  | cons x xs ih =>
    rw [numD, ih (fun d hd => h d (by simp [hd])), h x (by simp)]
theorem numD_take (xs : List Nat) (n : Nat) (h : ∀ j d, n ≤ j → xs[j]? = some d → d = 0) : numD (xs.take n) = numD xs := by
  have e : numD xs = numD (xs.take n ++ xs.drop n) := by rw [List.take_append_drop]
  rw [e, numD_append, numD_zero (xs.drop n)]
  · omega
  · intro d hd
    obtain ⟨j, hj⟩ := List.getElem?_of_mem hd
    rw [List.getElem?_drop] at hj
    exact h (n + j) d (by omega) hj
/-- no noughts at the end -/
def NormD (xs : List Nat) : Prop := xs = [] ∨ ∃ ys d, xs = ys ++ [d] ∧ 0 < d
theorem normD_len {xs : List Nat} (h : NormD xs) (hv : numD xs < 18446744073709551616) : xs.length ≤ 2 := by
  rcases h with rfl | ⟨ys, d, rfl, hd⟩
  · simp
  · rw [numD_snoc] at hv
    have h1 : 4294967296 ^ ys.length * 1 ≤ 4294967296 ^ ys.length * d := Nat.mul_le_mul_left _ hd
    have h2 : 4294967296 ^ ys.length < 4294967296 ^ 2 := by
      have : (4294967296 : Nat) ^ 2 = 18446744073709551616 := by decide
      omega
    have h3 : ys.length < 2 := (Nat.pow_lt_pow_iff_right (by omega)).1 h2
    simp
    omega
/-- digits that carry a number -/
def DigN (v : Nat) (ds : List Nat) : Prop := ds.length ≤ 2 ∧ (∀ d ∈ ds, d < 4294967296) ∧ numD ds = v
theorem digN_cases {v : Nat} {ds : List Nat} (h : DigN v ds) : (ds = [] ∧ v = 0) ∨ (∃ a, ds = [a] ∧ a < 4294967296 ∧ v = a) ∨ ∃ a b, ds = [a, b] ∧ a < 4294967296 ∧ b < 4294967296 ∧ v = b * 4294967296 + a := by
  obtain ⟨h1, h2, h3⟩ := h
  match ds, h1 with
  | [], _ => exact .inl ⟨rfl, by simpa [numD] using h3.symm⟩
  | [a], _ => exact .inr (.inl ⟨a, rfl, h2 a (by simp), by simpa [numD] using h3.symm⟩)
  | [a, b], _ => exact .inr (.inr ⟨a, b, rfl, h2 a (by simp), h2 b (by simp), by simp [numD] at h3; omega⟩)
/-- one digit of a sum -/
theorem plus_step (cs : List Nat) (i c a b q r S : Nat) (hl : cs.length = i) (h : numD cs + 4294967296 ^ i * c = S) (hq : q = (c + a + b) / 4294967296) (hr : r = (c + a + b) % 4294967296) :
    numD (cs ++ [r]) + 4294967296 ^ (i + 1) * q = S + 4294967296 ^ i * a + 4294967296 ^ i * b := by
  rw [numD_snoc, hl, Nat.pow_succ, Nat.mul_assoc, ← h]
  have : c + a + b = r + 4294967296 * q := by subst hq hr; omega
  have h2 : 4294967296 ^ i * (c + a + b) = 4294967296 ^ i * (r + 4294967296 * q) := by rw [this]
  rw [Nat.mul_add, Nat.mul_add, Nat.mul_add] at h2
  omega
theorem numD_take_succ (xs : List Nat) (i : Nat) : numD (xs.take (i + 1)) = numD (xs.take i) + 4294967296 ^ i * xs.getD i 0 := by
  by_cases h : i < xs.length
  · rw [take_succ_of (List.getElem?_eq_getElem h), numD_snoc, List.length_take, Nat.min_eq_left (by omega), List.getD_eq_getElem?_getD, List.getElem?_eq_getElem h]
    rfl
  · rw [List.take_of_length_le (by omega), List.take_of_length_le (by omega), List.getD_eq_getElem?_getD, List.getElem?_eq_none (by omega)]
    simp
theorem dig_getD {xs : List Nat} (h : ∀ d ∈ xs, d < 4294967296) (i : Nat) : xs.getD i 0 < 4294967296 := by
  rw [List.getD_eq_getElem?_getD]
  cases hx : xs[i]? with
  | none => simp
  | some d => exact h d (List.mem_of_getElem? hx)
end Go.Proofs.Ytlgggeeflomelaa
