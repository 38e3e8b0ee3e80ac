/- what Take and Give answer, told alike for all semaphores. -/
import Derived.Test.YtemnhnhpaaoccaaPermI
namespace Go.Proofs.Ytemnhnhpaaoccaa
open Go.RowKit

/-- what Take answers -/
def TakeIs (p : Int) (n : Nat) (xs : List Int) (t : Int) (q P : Int) (m : Nat) (L : List Int) : Prop :=
  ((q == 0) = false ∧ P = 0 ∧ m = 0 ∧ L = [] ∧ ((q = 1 ∧ ¬ Ser t) ∨ (q = 3 ∧ Ser t ∧ ¬ Form p xs) ∨ (q = 8 ∧ Ser t ∧ Form p xs ∧ t ∈ xs) ∨ (q = 9 ∧ Ser t ∧ Form p xs ∧ t ∉ xs ∧ (n : Int) = p))) ∨
  (q = 0 ∧ P = p ∧ m = n + 1 ∧ Ser t ∧ Form p xs ∧ t ∉ xs ∧ (n : Int) < p ∧ ∃ k, At xs t k ∧ L = insL xs k t)
theorem take_cases (p t : Int) (n : Nat) (xs : List Int) (hl : xs.length = n) (hn : n ≤ 17592186044400) :
    ∃ (q P : Int) (m : Nat) (L : List Int), TakeIs p n xs t q P m L ∧ ∀ w A c, Rd w A (ivals xs) → Calls Try.prog 9 #[semaV p A n c, .int .i64 t] w (RetS P m L q w) := by
  by_cases hs : Ser t
  · by_cases hF : Form p xs
    · by_cases hm : t ∈ xs
      · exact ⟨8, 0, 0, [], .inl ⟨rfl, rfl, rfl, rfl, .inr (.inr (.inl ⟨rfl, hs, hF, hm⟩))⟩, fun w A c hr => take_err w p t A n c xs 8 hl (by omega) hr hs (.inr ⟨hF, .inl ⟨hm, rfl⟩⟩)⟩
      · by_cases hnp : (n : Int) = p
        · exact ⟨9, 0, 0, [], .inl ⟨rfl, rfl, rfl, rfl, .inr (.inr (.inr ⟨rfl, hs, hF, hm, hnp⟩))⟩, fun w A c hr => take_err w p t A n c xs 9 hl (by omega) hr hs (.inr ⟨hF, .inr ⟨hm, hnp, rfl⟩⟩)⟩
        · obtain ⟨k, hk⟩ := at_some hF.2.2.2 t
          have hlt : (n : Int) < p := by have := hF.2.2.1; rw [hl] at this; omega
          exact ⟨0, p, n + 1, insL xs k t, .inr ⟨rfl, rfl, rfl, hs, hF, hm, hlt, k, hk, rfl⟩, fun w A c hr => take_ok w p t A n c k xs hl hr hs hF hk hm hlt⟩
    · exact ⟨3, 0, 0, [], .inl ⟨rfl, rfl, rfl, rfl, .inr (.inl ⟨rfl, hs, hF⟩)⟩, fun w A c hr => take_err w p t A n c xs 3 hl (by omega) hr hs (.inl ⟨hF, rfl⟩)⟩
  · exact ⟨1, 0, 0, [], .inl ⟨rfl, rfl, rfl, rfl, .inl ⟨rfl, hs⟩⟩, fun w A c _ => take_arg w p t A n c hs⟩
/-- what Give answers -/
def GiveIs (p : Int) (n : Nat) (xs : List Int) (t : Int) (q P : Int) (m : Nat) (L : List Int) : Prop :=
  ((q == 0) = false ∧ P = 0 ∧ m = 0 ∧ L = [] ∧ ((q = 3 ∧ ¬ Form p xs) ∨ (q = 11 ∧ Form p xs ∧ t ∉ xs))) ∨
  (q = 0 ∧ P = p ∧ m = n - 1 ∧ Form p xs ∧ t ∈ xs ∧ ∃ k, At xs t k ∧ k < n ∧ L = delL xs k)
theorem give_cases (p t : Int) (n : Nat) (xs : List Int) (hl : xs.length = n) (hn : n ≤ 17592186044400) :
    ∃ (q P : Int) (m : Nat) (L : List Int), GiveIs p n xs t q P m L ∧ ∀ w A c, Rd w A (ivals xs) → Calls Try.prog 10 #[semaV p A n c, .int .i64 t] w (RetS P m L q w) := by
  by_cases hF : Form p xs
  · by_cases hm : t ∈ xs
    · obtain ⟨k, hk⟩ := at_some hF.2.2.2 t
      exact ⟨0, p, n - 1, delL xs k, .inr ⟨rfl, rfl, rfl, hF, hm, k, hk, by rw [← hl]; exact ((at_mem hk hF.2.2.2).1 hm).1, rfl⟩, fun w A c hr => give_ok w p t A n c k xs hl hr hF hk hm⟩
    · exact ⟨11, 0, 0, [], .inl ⟨rfl, rfl, rfl, rfl, .inr ⟨rfl, hF, hm⟩⟩, fun w A c hr => give_err w p t A n c xs 11 hl (by omega) hr (.inr ⟨hF, hm, rfl⟩)⟩
  · exact ⟨3, 0, 0, [], .inl ⟨rfl, rfl, rfl, rfl, .inl ⟨rfl, hF⟩⟩, fun w A c hr => give_err w p t A n c xs 3 hl (by omega) hr (.inl ⟨hF, rfl⟩)⟩
theorem ins_form {p : Int} {n k : Nat} {xs : List Int} {t : Int} (hl : xs.length = n) (hF : Form p xs) (hs : Ser t) (hm : t ∉ xs) (hk : At xs t k) (hn : (n : Int) < p) : Form p (insL xs k t) := by
  obtain ⟨h1, h2, h3, h4⟩ := hF
  exact ⟨h1, h2, by rw [insL_len t hk.1, hl]; omega, ins_good hk h4 hm hs⟩
theorem del_form {p : Int} {k : Nat} {xs : List Int} (hF : Form p xs) (hk : k < xs.length) : Form p (delL xs k) := by
  obtain ⟨h1, h2, h3, h4⟩ := hF
  exact ⟨h1, h2, by rw [delL_len hk]; omega, del_good k h4⟩
theorem retS_len {m : Nat} {xs : List Int} {w w' : World} {A : Option Addr} {c : Nat} (h : w'.ownsRow w.heap.size 2 1 (.slice A m c) m (ivals xs)) : xs.length = m := by
  have := h.1
  rw [ivals_len, Nat.mul_one] at this
  exact this
end Go.Proofs.Ytemnhnhpaaoccaa
