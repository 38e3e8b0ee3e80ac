/- hash.Ident, hash.Parts and the document's, each under one statement for every input. -/
import Derived.Test.YtlfccmipfijjbaaHashC
import Derived.Test.YtlfccmipfijjbaaBase2
namespace Go.Proofs.Ytlfccmipfijjbaa
open Go.RowKit

/-- what Ident answers -/
def identF (p : Int) (xs : List Nat) : List Nat × Int := if p < 0 ∨ 32 ≤ p then ([], 1) else if 255 < xs.length then ([], 2) else (p.toNat :: xs, 0)
/-- what Parts answers -/
def partsF (ys : List Nat) : Nat × List Nat × Int :=
  match ys with
  | [] => (0, [], 3)
  | y :: t => if 256 < t.length + 1 ∨ 32 ≤ y then (0, [], 3) else (y, t, 0)

/-- a list of bytes and an error's number -/
def RetBX (xs : List Nat) (er : Int) (w : World) (e : Ending) (w' : World) : Prop :=
  ∃ A n c, e = .returned (.tuple #[.slice A n c, .int .i64 er]) ∧ xs.length = n ∧ n ≤ c ∧ Rd w' A (vals .u8 xs) ∧ Ext w w'
def RetPX (p : Nat) (xs : List Nat) (er : Int) (w : World) (e : Ending) (w' : World) : Prop :=
  ∃ A n c, e = .returned (.tuple #[.int .i64 (p : Int), .slice A n c, .int .i64 er]) ∧ xs.length = n ∧ n ≤ c ∧ Rd w' A (vals .u8 xs) ∧ Ext w w'
theorem retBX_of {xs : List Nat} {er : Int} {w : World} {e : Ending} {w' : World} (h : RetBE xs er w e w') : RetBX xs er w e w' := by
  obtain ⟨A, c, he, ho, hx⟩ := h
  exact ⟨A, _, c, he, rfl, own_cap ho, Rd.of_own ho, hx⟩
theorem retPX_of {p : Nat} {xs : List Nat} {er : Int} {w : World} {e : Ending} {w' : World} (h : RetParts (p : Int) xs er w e w') : RetPX p xs er w e w' := by
  obtain ⟨A, c, he, ho, hx⟩ := h
  exact ⟨A, _, c, he, rfl, own_cap ho, Rd.of_own ho, hx⟩

theorem ident_all (p : Int) (A : Option Addr) (n c : Nat) (xs : List Nat) (w : World) (hl : xs.length = n) (hr : Rd w A (vals .u8 xs)) :
    Calls Try.prog 20 #[.int .i64 p, .slice A n c] w (RetBX (identF p xs).1 (identF p xs).2 w) := by
  unfold identF
  by_cases h1 : p < 0 ∨ 32 ≤ p
  · rw [if_pos h1]
    exact (ident_arg p A n c w h1).mono fun e w' ⟨he, hw⟩ => ⟨none, 0, 0, he, rfl, Nat.le_refl _, Rd.nil _ _, hw ▸ Ext.refl w⟩
  · rw [if_neg h1]
    by_cases h2 : 255 < xs.length
    · rw [if_pos h2]
      exact (ident_long p A n c w (by omega) (by omega) (by omega)).mono fun e w' ⟨he, hw⟩ => ⟨none, 0, 0, he, rfl, Nat.le_refl _, Rd.nil _ _, hw ▸ Ext.refl w⟩
    · rw [if_neg h2]
      obtain ⟨q, rfl⟩ := Int.eq_ofNat_of_zero_le (show 0 ≤ p by omega)
      rw [Int.toNat_natCast]
      exact (ident_ok q A n c xs w (by omega) hl (by omega) hr).mono fun e w' h => retBX_of h
theorem docIdent_all (p : Int) (A : Option Addr) (n c : Nat) (xs : List Nat) (w : World) (hl : xs.length = n) (hb : ∀ x ∈ xs, x < 256) (hr : Rd w A (vals .u8 xs)) :
    Calls Try.prog 22 #[.int .i64 p, .slice A n c] w (RetBX (identF p xs).1 (identF p xs).2 w) := by
  unfold identF
  by_cases h1 : p < 0 ∨ 32 ≤ p
  · rw [if_pos h1]
    exact (refDocIdent_arg p A n c w h1).mono fun e w' ⟨he, hw⟩ => ⟨none, 0, 0, he, rfl, Nat.le_refl _, Rd.nil _ _, hw ▸ Ext.refl w⟩
  · rw [if_neg h1]
    by_cases h2 : 255 < xs.length
    · rw [if_pos h2]
      exact (refDocIdent_long p A n c w (by omega) (by omega) (by omega)).mono fun e w' ⟨he, hw⟩ => ⟨none, 0, 0, he, rfl, Nat.le_refl _, Rd.nil _ _, hw ▸ Ext.refl w⟩
    · rw [if_neg h2]
      obtain ⟨q, rfl⟩ := Int.eq_ofNat_of_zero_le (show 0 ≤ p by omega)
      rw [Int.toNat_natCast]
      exact (refDocIdent_ok q A n c xs w (by omega) hl (by omega) hb hr).mono fun e w' h => retBX_of h
theorem parts_all (A : Option Addr) (n c : Nat) (ys : List Nat) (w : World) (hl : ys.length = n) (hnc : n ≤ c) (hb : ∀ x ∈ ys, x < 256) (hr : Rd w A (vals .u8 ys)) :
    Calls Try.prog 23 #[.slice A n c] w (RetPX (partsF ys).1 (partsF ys).2.1 (partsF ys).2.2 w) := by
  cases ys with
  | nil =>
    subst hl
    exact (parts_none A 0 c w (.inl rfl)).mono fun e w' ⟨he, hw⟩ => ⟨none, 0, 0, he, rfl, Nat.le_refl _, Rd.nil _ _, hw ▸ Ext.refl w⟩
  | cons y t =>
    rw [List.length_cons] at hl
    unfold partsF
    by_cases h1 : 256 < t.length + 1
    · simp only [if_pos (Or.inl h1 : 256 < t.length + 1 ∨ 32 ≤ y)]
      exact (parts_none A n c w (.inr (by omega))).mono fun e w' ⟨he, hw⟩ => ⟨none, 0, 0, he, rfl, Nat.le_refl _, Rd.nil _ _, hw ▸ Ext.refl w⟩
    · by_cases h2 : 32 ≤ y
      · simp only [if_pos (Or.inr h2 : 256 < t.length + 1 ∨ 32 ≤ y)]
        exact (parts_policy A n c y t w h2 (hb y List.mem_cons_self) hl (by omega) hr).mono fun e w' ⟨he, hw⟩ => ⟨none, 0, 0, he, rfl, Nat.le_refl _, Rd.nil _ _, hw ▸ Ext.refl w⟩
      · simp only [if_neg (by omega : ¬ (256 < t.length + 1 ∨ 32 ≤ y))]
        exact (parts_ok A n c y t w (by omega) hl hnc (by omega) hr).mono fun e w' h => retPX_of h
theorem docParts_all (A : Option Addr) (n c : Nat) (ys : List Nat) (w : World) (hl : ys.length = n) (hnc : n ≤ c) (hb : ∀ x ∈ ys, x < 256) (hr : Rd w A (vals .u8 ys)) :
    Calls Try.prog 24 #[.slice A n c] w (RetPX (partsF ys).1 (partsF ys).2.1 (partsF ys).2.2 w) := by
  cases ys with
  | nil =>
    subst hl
    exact (refParts_none A 0 c w (.inl rfl)).mono fun e w' ⟨he, hw⟩ => ⟨none, 0, 0, he, rfl, Nat.le_refl _, Rd.nil _ _, hw ▸ Ext.refl w⟩
  | cons y t =>
    rw [List.length_cons] at hl
    unfold partsF
    by_cases h1 : 256 < t.length + 1
    · simp only [if_pos (Or.inl h1 : 256 < t.length + 1 ∨ 32 ≤ y)]
      exact (refParts_none A n c w (.inr (by omega))).mono fun e w' ⟨he, hw⟩ => ⟨none, 0, 0, he, rfl, Nat.le_refl _, Rd.nil _ _, hw ▸ Ext.refl w⟩
    · by_cases h2 : 32 ≤ y
      · simp only [if_pos (Or.inr h2 : 256 < t.length + 1 ∨ 32 ≤ y)]
        exact (refParts_policy A n c y t w h2 (hb y List.mem_cons_self) hl (by omega) hr).mono fun e w' ⟨he, hw⟩ => ⟨none, 0, 0, he, rfl, Nat.le_refl _, Rd.nil _ _, hw ▸ Ext.refl w⟩
      · simp only [if_neg (by omega : ¬ (256 < t.length + 1 ∨ 32 ≤ y))]
        exact (refParts_ok A n c y t w (by omega) hl hnc (by omega) hr).mono fun e w' h => retPX_of h

theorem identF_ok {p : Int} {xs : List Nat} (h : (identF p xs).2 = 0) : ∃ q : Nat, p = (q : Int) ∧ q < 32 ∧ xs.length ≤ 255 ∧ (identF p xs).1 = q :: xs := by
  unfold identF at h ⊢
  by_cases h1 : p < 0 ∨ 32 ≤ p
  · rw [if_pos h1] at h; simp at h
  · rw [if_neg h1] at h ⊢
    by_cases h2 : 255 < xs.length
    · rw [if_pos h2] at h; simp at h
    · rw [if_neg h2]
      exact ⟨p.toNat, by omega, by omega, by omega, rfl⟩
theorem identF_mk (q : Nat) (xs : List Nat) (h1 : q < 32) (h2 : xs.length ≤ 255) : identF (q : Int) xs = (q :: xs, 0) := by
  unfold identF
  rw [if_neg (by omega), if_neg (by omega), Int.toNat_natCast]
theorem identF_mem {p : Int} {xs : List Nat} (hb : ∀ x ∈ xs, x < 256) : ∀ x ∈ (identF p xs).1, x < 256 := by
  unfold identF
  by_cases h1 : p < 0 ∨ 32 ≤ p
  · rw [if_pos h1]; simp
  · rw [if_neg h1]
    by_cases h2 : 255 < xs.length
    · rw [if_pos h2]; simp
    · rw [if_neg h2]
      intro x hx
      rcases List.mem_cons.1 hx with rfl | hx
      · omega
      · exact hb x hx
theorem partsF_ok {ys : List Nat} (h : (partsF ys).2.2 = 0) : ∃ y t, ys = y :: t ∧ y < 32 ∧ t.length ≤ 255 ∧ (partsF ys).1 = y ∧ (partsF ys).2.1 = t := by
  cases ys with
  | nil => simp [partsF] at h
  | cons y t =>
    unfold partsF at h ⊢
    by_cases h1 : 256 < t.length + 1 ∨ 32 ≤ y
    · simp [if_pos h1] at h
    · simp only [if_neg h1]
      exact ⟨y, t, rfl, by omega, by omega, rfl, rfl⟩
theorem partsF_mk (y : Nat) (t : List Nat) (h1 : y < 32) (h2 : t.length ≤ 255) : partsF (y :: t) = (y, t, 0) := by
  unfold partsF
  simp only [if_neg (by omega : ¬ (256 < t.length + 1 ∨ 32 ≤ y))]
theorem partsF_mem {ys : List Nat} (hb : ∀ x ∈ ys, x < 256) : ∀ x ∈ (partsF ys).2.1, x < 256 := by
  cases ys with
  | nil => simp [partsF]
  | cons y t =>
    unfold partsF
    by_cases h1 : 256 < t.length + 1 ∨ 32 ≤ y
    · simp [if_pos h1]
    · simp only [if_neg h1]
      exact fun x hx => hb x (List.mem_cons_of_mem _ hx)
end Go.Proofs.Ytlfccmipfijjbaa
