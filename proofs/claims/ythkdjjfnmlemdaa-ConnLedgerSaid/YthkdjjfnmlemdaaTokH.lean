/- Tokens' bytes: one to one; what Encode and Decode answer, told alike for right and wrong ones. -/
import Derived.Test.YthkdjjfnmlemdaaTokG
namespace Go.Proofs.Ythkdjjfnmlemdaa
open Go.RowKit


theorem wordB_inj {k v v' : Nat} (h : wordB v k = wordB v' k) (hv : v < 256 ^ k) (hv' : v' < 256 ^ k) : v = v' := by
  have := congrArg numB h
  rw [numB_wordB, numB_wordB, Nat.mod_eq_of_lt hv, Nat.mod_eq_of_lt hv'] at this
  exact this
theorem tokB_inj {p p' s s' : Nat} {xs xs' : List Nat} (h : tokB p xs s = tokB p' xs' s') (h2 : s ≤ 4611686018427387903) (h2' : s' ≤ 4611686018427387903) : p = p' ∧ xs = xs' ∧ s = s' := by
  have e : ∀ p s (xs : List Nat), tokB p xs s = 83 :: 71 :: p :: xs.length :: (xs ++ (wordB s 8 ++ wordB (sumT (bodyT p xs s)) 4)) := by intro p s xs; simp [tokB, bodyT]
  rw [e p s xs, e p' s' xs'] at h
  simp only [List.cons.injEq, true_and] at h
  obtain ⟨h1, h3, h4⟩ := h
  obtain ⟨h5, h6⟩ := List.append_inj h4 h3
  obtain ⟨h7, _⟩ := List.append_inj h6 (by rw [wordB_len, wordB_len])
  exact ⟨h1, h5, wordB_inj h7 (Nat.lt_of_le_of_lt h2 (by decide)) (Nat.lt_of_le_of_lt h2' (by decide))⟩
theorem isTok_len {ys : List Nat} (h : IsTok ys) : ∃ k, ys[3]? = some k ∧ ys.length = k + 16 := by
  obtain ⟨p, s, xs, _, _, _, _, _, rfl⟩ := h
  exact ⟨xs.length, rfl, tokB_len p xs s⟩
theorem cut_none (p s j : Nat) (xs : List Nat) (hj : j < (tokB p xs s).length) : ¬ IsTok ((tokB p xs s).take j) := by
  intro h
  obtain ⟨k, h1, h2⟩ := isTok_len h
  rw [tokB_len] at hj
  rw [List.length_take, tokB_len] at h2
  rw [List.getElem?_take] at h1
  split at h1
  · have : (tokB p xs s)[3]? = some xs.length := rfl
    rw [this] at h1
    injection h1 with h1
    omega
  · cases h1
theorem more_none (p s : Nat) (xs ms : List Nat) (hm : ms ≠ []) : ¬ IsTok (tokB p xs s ++ ms) := by
  intro h
  obtain ⟨k, h1, h2⟩ := isTok_len h
  rw [List.length_append, tokB_len] at h2
  have : (tokB p xs s ++ ms)[3]? = some xs.length := rfl
  rw [this] at h1
  injection h1 with h1
  have := List.length_pos_iff.2 hm
  omega
/-- what Encode answers, told alike for right and wrong tokens -/
def EncIs (p s : Int) (xs : List Nat) (n : Nat) (q : Int) (L : List Nat) : Prop :=
  ((q == 0) = false ∧ L = []) ∨ (q = 0 ∧ ∃ P S : Nat, p = (P : Int) ∧ s = (S : Int) ∧ P < 32 ∧ 1 ≤ S ∧ S ≤ 4611686018427387903 ∧ n ≤ 255 ∧ L = tokB P xs S)
theorem retBE_none {q : Int} {w w' : World} {e : Ending} (h : RetE (.tuple #[.slice none 0 0, .int .i64 q]) w e w') : RetBE [] q w e w' :=
  ⟨none, 0, h.1, World.ownsRow_nil _ _ _ _, h.2⟩
theorem enc_cases (p s : Int) (A : Option Addr) (n c : Nat) (xs : List Nat) (hl : xs.length = n) (hb : ∀ x ∈ xs, x < 256) :
    ∃ (q : Int) (L : List Nat), EncIs p s xs n q L ∧ ∀ w, Rd w A (vals .u8 xs) → Calls Try.prog 30 #[tokV p A n c s] w (RetBE L q w) := by
  by_cases h1 : s < 1 ∨ 4611686018427387903 < s ∨ p < 0 ∨ 32 ≤ p
  · exact ⟨1, [], .inl ⟨rfl, rfl⟩, fun w' _ => (tokEncode_arg w' p s A n c h1).mono fun _ _ h => retBE_none h⟩
  · by_cases h2 : 255 < n
    · exact ⟨2, [], .inl ⟨rfl, rfl⟩, fun w' _ => (tokEncode_long w' p s A n c (by omega) (by omega) (by omega) (by omega) h2).mono fun _ _ h => retBE_none h⟩
    · refine ⟨0, tokB p.toNat xs s.toNat, .inr ⟨rfl, p.toNat, s.toNat, by omega, by omega, by omega, by omega, by omega, by omega, rfl⟩, fun w' hr => ?_⟩
      have := tokEncode_ok w' p.toNat s.toNat A n c xs hl hb hr (by omega) (by omega) (by omega) (by omega)
      rwa [show ((p.toNat : Nat) : Int) = p by omega, show ((s.toNat : Nat) : Int) = s by omega] at this

theorem rd_take' {w : World} {A : Option Addr} {ys : List Nat} (h : Rd w A (vals .u8 ys)) (j : Nat) : Rd w A (vals .u8 (ys.take j)) :=
  rd_take (ys := ys.drop j) (by rw [List.take_append_drop]; exact h)

end Go.Proofs.Ythkdjjfnmlemdaa
