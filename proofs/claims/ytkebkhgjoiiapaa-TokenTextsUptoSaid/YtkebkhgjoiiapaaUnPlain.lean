/- Texts of half bytes back to bytes: plain. -/
import Derived.Test.YtkebkhgjoiiapaaHex
import Derived.Lib.Bytealg
namespace Go.Proofs.Ytkebkhgjoiiapaa
open Go.RowKit

/-- the half byte of a character, or -1 -/
def backN (c : Nat) : Int := if 48 ≤ c ∧ c ≤ 57 then (c : Int) - 48 else if 97 ≤ c ∧ c ≤ 102 then (c : Int) - 87 else -1
def unhexL : List UInt8 → Option (List Nat)
  | [] => some []
  | [_] => none
  | a :: b :: r => if backN a.toNat < 0 ∨ backN b.toNat < 0 then none else (unhexL r).map (((16 * backN a.toNat + backN b.toNat).toNat) :: ·)
theorem backN_bd (c : Nat) : -1 ≤ backN c ∧ backN c ≤ 15 := by unfold backN; split <;> (try split) <;> omega
theorem idx_backN : ∀ c : Fin 256, Lib.indexByte [48, 49, 50, 51, 52, 53, 54, 55, 56, 57, 97, 98, 99, 100, 101, 102] c.val.toUInt8 = backN c.val := by decide +kernel
theorem unhexL_odd : ∀ (n : Nat) (l : List UInt8), l.length ≤ n → l.length % 2 = 1 → unhexL l = none
  | _, [], _, h => by simp at h
  | _, [_], _, _ => rfl
  | 0, _ :: _ :: _, h, _ => by simp at h
  | n + 1, a :: b :: r, hn, h => by
    simp only [List.length_cons] at hn h
    rw [unhexL, unhexL_odd n r (by omega) (by omega)]
    split <;> rfl
theorem digit_back (d : Nat) (h : d < 16) : backN (digitN d) = (d : Int) := by
  unfold digitN backN
  split
  · rw [if_pos (by omega)]; omega
  · rw [if_neg (by omega), if_pos (by omega)]; omega
theorem back_digit (c : UInt8) (h : 0 ≤ backN c.toNat) : (digitN (backN c.toNat).toNat).toUInt8 = c := by
  have hc := c.toNat_lt
  apply UInt8.toNat_inj.1
  generalize c.toNat = m at *
  have e : digitN (backN m).toNat = m := by
    unfold backN at h ⊢
    split at h
    · rename_i h1
      rw [if_pos h1]; unfold digitN; rw [if_pos (by omega)]; omega
    · rename_i h1
      split at h
      · rename_i h2
        rw [if_neg h1, if_pos h2]; unfold digitN; rw [if_neg (by omega)]; omega
      · omega
  rw [e]
  simp only [Nat.toUInt8, UInt8.toNat_ofNat']
  exact Nat.mod_eq_of_lt hc
/-- the text of the bytes of a text is the text -/
theorem hex_unhex : ∀ (n : Nat) (l : List UInt8) (xs : List Nat), l.length ≤ n → unhexL l = some xs → (hexN xs).map (fun x => x.toUInt8) = l ∧ (∀ x ∈ xs, x < 256) ∧ 2 * xs.length = l.length
  | _, [], xs, _, h => by
    simp only [unhexL, Option.some.injEq] at h
    subst h
    simp [hexN]
  | _, [_], _, _, h => by simp [unhexL] at h
  | 0, _ :: _ :: _, _, h, _ => by simp at h
  | n + 1, a :: b :: r, xs, hn, h => by
    simp only [List.length_cons] at hn
    rw [unhexL] at h
    split at h
    · cases h
    · rename_i hab
      obtain ⟨ys, hy, rfl⟩ := Option.map_eq_some_iff.1 h
      obtain ⟨h1, h2, h3⟩ := hex_unhex n r ys (by omega) hy
      have ba := backN_bd a.toNat
      have bb := backN_bd b.toNat
      have e1 : (16 * backN a.toNat + backN b.toNat).toNat / 16 = (backN a.toNat).toNat := by omega
      have e2 : (16 * backN a.toNat + backN b.toNat).toNat % 16 = (backN b.toNat).toNat := by omega
      refine ⟨?_, ?_, ?_⟩
      · show List.map _ ([digitN (_ / 16), digitN (_ % 16)] ++ hexN ys) = _
        rw [List.map_append, h1, e1, e2]
        simp only [List.map_cons, List.map_nil, List.cons_append, List.nil_append]
        rw [back_digit a (by omega), back_digit b (by omega)]
      · intro x hx
        rcases List.mem_cons.1 hx with rfl | hx
        · omega
        · exact h2 x hx
      · simp only [List.length_cons]; omega
/-- the bytes of the text of bytes are the bytes -/
theorem unhex_hex (xs : List Nat) (h : ∀ x ∈ xs, x < 256) : unhexL ((hexN xs).map fun x => x.toUInt8) = some xs := by
  induction xs with
  | nil => rfl
  | cons x xs ih =>
    have hx := h x List.mem_cons_self
    have e : (hexN (x :: xs)).map (fun x => x.toUInt8) = (digitN (x / 16)).toUInt8 :: (digitN (x % 16)).toUInt8 :: (hexN xs).map (fun x => x.toUInt8) := rfl
    have t : ∀ d, d < 16 → ((digitN d).toUInt8).toNat = digitN d := fun d hd => by
      simp only [Nat.toUInt8, UInt8.toNat_ofNat']
      exact Nat.mod_eq_of_lt (digitN_lt d hd)
    rw [e, unhexL, t _ (by omega), t _ (by omega), digit_back _ (by omega), digit_back _ (by omega), if_neg (by omega), ih (fun y hy => h y (List.mem_cons_of_mem _ hy))]
    simp only [Option.map_some, Option.some.injEq, List.cons.injEq, and_true]
    omega
/-- one step of the loop -/
theorem unhex_step (l : List UInt8) (i : Nat) (a b : UInt8) (done : List Nat) (ha : l[i]? = some a) (hb : l[i + 1]? = some b) (h : unhexL l = (unhexL (l.drop i)).map (done ++ ·)) :
    (backN a.toNat < 0 ∨ backN b.toNat < 0 → unhexL l = none) ∧ (¬ (backN a.toNat < 0 ∨ backN b.toNat < 0) → unhexL l = (unhexL (l.drop (i + 2))).map ((done ++ [(16 * backN a.toNat + backN b.toNat).toNat]) ++ ·)) := by
  have e : l.drop i = a :: b :: l.drop (i + 2) := by
    obtain ⟨h1, h1'⟩ := List.getElem?_eq_some_iff.1 ha
    obtain ⟨h2, h2'⟩ := List.getElem?_eq_some_iff.1 hb
    rw [List.drop_eq_getElem_cons h1, List.drop_eq_getElem_cons h2, h1', h2']
  rw [e, unhexL] at h
  constructor
  · intro hc; rw [if_pos hc] at h; rw [h]; rfl
  · intro hc; rw [if_neg hc] at h; rw [h, Option.map_map]
    congr 1
    funext r
    simp
end Go.Proofs.Ytkebkhgjoiiapaa
