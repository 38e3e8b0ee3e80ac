/- What bytes are a token's. No walk. -/
import Derived.Test.YthkdjjfnmlemdaaTokE
namespace Go.Proofs.Ythkdjjfnmlemdaa
open Go.RowKit

/-- the bytes of a right token -/
def IsTok (ys : List Nat) : Prop := ∃ (p s : Nat) (xs : List Nat), p < 32 ∧ 1 ≤ s ∧ s ≤ 4611686018427387903 ∧ xs.length ≤ 255 ∧ (∀ x ∈ xs, x < 256) ∧ ys = tokB p xs s

theorem wordB_of (xs : List Nat) (k s : Nat) (hb : ∀ x ∈ xs, x < 256) (hl : xs.length = k) (h : numB xs = s) : wordB s k = xs := by
  have := wordB_numB xs hb 0
  rw [Nat.zero_mul, Nat.zero_add, hl, h] at this
  exact this
theorem tok_build (ys : List Nat) (p k s : Nat) (hb : ∀ x ∈ ys, x < 256) (hlen : ys.length = k + 16) (h0 : ys[0]? = some 83) (h1 : ys[1]? = some 71) (h2 : ys[2]? = some p) (h3 : ys[3]? = some k)
    (hs : numB ((ys.drop (4 + k)).take 8) = s) (hq : numB (ys.drop (4 + k + 8)) = upd 14695981039346656037 (ys.take (4 + k + 8)) % 4294967296) : ys = tokB p ((ys.drop 4).take k) s := by
  obtain ⟨r, rfl⟩ : ∃ r, ys = 83 :: 71 :: p :: k :: r := by
    match ys, hlen, h0, h1, h2, h3 with
    | a :: b :: c :: d :: r, _, h0, h1, h2, h3 =>
      simp at h0 h1 h2 h3
      subst h0 h1 h2 h3
      exact ⟨r, rfl⟩
    | [], hlen, _, _, _, _ => simp at hlen
    | [_], hlen, _, _, _, _ => simp at hlen
    | [_, _], hlen, _, _, _, _ => simp at hlen
    | [_, _, _], hlen, _, _, _, _ => simp at hlen
  have hlr : r.length = k + 12 := by simp at hlen; omega
  have e1 : (83 :: 71 :: p :: k :: r).drop (4 + k) = r.drop k := by
    rw [show 4 + k = k + 4 by omega]; rfl
  have e2 : (83 :: 71 :: p :: k :: r).drop (4 + k + 8) = r.drop (k + 8) := by
    rw [show 4 + k + 8 = (k + 8) + 4 by omega]; rfl
  have e3 : (83 :: 71 :: p :: k :: r).take (4 + k + 8) = 83 :: 71 :: p :: k :: r.take (k + 8) := by
    rw [show 4 + k + 8 = (k + 8) + 4 by omega]; rfl
  have e4 : (83 :: 71 :: p :: k :: r).drop 4 = r := rfl
  rw [e1] at hs
  rw [e2, e3] at hq
  rw [e4]
  have hbr : ∀ x ∈ r, x < 256 := fun x hx => hb x (by simp [hx])
  have hw8 : wordB s 8 = (r.drop k).take 8 := wordB_of _ 8 s (fun x hx => hbr x (List.mem_of_mem_drop (List.mem_of_mem_take hx))) (by rw [List.length_take, List.length_drop]; omega) hs
  have hkl : (r.take k).length = k := by rw [List.length_take]; omega
  have hbody : bodyT p (r.take k) s = 83 :: 71 :: p :: k :: r.take (k + 8) := by
    rw [bodyT, hkl, hw8, List.take_add]
  have hw4 : wordB (sumT (bodyT p (r.take k) s)) 4 = r.drop (k + 8) := by
    rw [hbody]
    exact wordB_of _ 4 _ (fun x hx => hbr x (List.mem_of_mem_drop hx)) (by rw [List.length_drop]; omega) hq
  rw [tokB, hw4, hbody]
  simp
theorem isTok_of (ys : List Nat) (p k s : Nat) (hb : ∀ x ∈ ys, x < 256) (hlen : ys.length = k + 16) (h0 : ys[0]? = some 83) (h1 : ys[1]? = some 71) (h2 : ys[2]? = some p) (h3 : ys[3]? = some k) (hp : p < 32) (hk : k < 256)
    (hs : numB ((ys.drop (4 + k)).take 8) = s) (hs1 : 1 ≤ s) (hs2 : s ≤ 4611686018427387903) (hq : numB (ys.drop (4 + k + 8)) = upd 14695981039346656037 (ys.take (4 + k + 8)) % 4294967296) : IsTok ys :=
  ⟨p, s, (ys.drop 4).take k, hp, hs1, hs2, by rw [List.length_take]; omega, fun x hx => hb x (List.mem_of_mem_drop (List.mem_of_mem_take hx)), tok_build ys p k s hb hlen h0 h1 h2 h3 hs hq⟩
theorem tokB_lt (p s : Nat) (xs : List Nat) (hp : p < 256) (hl : xs.length < 256) (hb : ∀ x ∈ xs, x < 256) : ∀ x ∈ tokB p xs s, x < 256 := fun x hx => by
  simp only [tokB, bodyT, List.mem_append, List.mem_cons] at hx
  rcases hx with (rfl | rfl | rfl | rfl | hx | hx) | hx
  · omega
  · omega
  · omega
  · omega
  · exact hb x hx
  · exact wordB_lt _ _ x hx
  · exact wordB_lt _ _ x hx
theorem numB_lt_of (xs : List Nat) (hb : ∀ x ∈ xs, x < 256) (hl : xs.length ≤ 8) : numB xs < 18446744073709551616 := by
  have := numB_lt xs hb
  refine Nat.lt_of_lt_of_le this ?_
  rw [show (18446744073709551616 : Nat) = 256 ^ 8 by rfl]
  exact Nat.pow_le_pow_right (by omega) hl
end Go.Proofs.Ythkdjjfnmlemdaa
