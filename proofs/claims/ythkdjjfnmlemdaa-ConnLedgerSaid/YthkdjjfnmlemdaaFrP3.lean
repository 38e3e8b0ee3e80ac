/- Frames: a stream that is made of frames. -/
import Derived.Test.YthkdjjfnmlemdaaFrE
import Derived.Test.YthkdjjfnmlemdaaFrP2
namespace Go.Proofs.Ythkdjjfnmlemdaa
open Go.RowKit

theorem len4_len (n : Nat) : (len4 n).length = 4 := rfl
theorem len4_lt (n : Nat) : ∀ x ∈ len4 n, x < 256 := by
  intro x hx
  simp only [len4, List.mem_cons, List.not_mem_nil, or_false] at hx
  rcases hx with rfl | rfl | rfl | rfl <;> exact Nat.mod_lt _ (by omega)
theorem take4 (n : Nat) (ys : List Nat) : (len4 n ++ ys).take 4 = len4 n := by
  rw [List.take_append_of_le_length (by rw [len4_len]; omega), List.take_of_length_le (by rw [len4_len]; omega)]
theorem drop4 (n : Nat) (ys : List Nat) : (len4 n ++ ys).drop 4 = ys := by
  rw [List.drop_append_of_le_length (by rw [len4_len]; omega), List.drop_of_length_le (by rw [len4_len]; omega), List.nil_append]
/-- a frame at the head -/
theorem parse_enc (p ys : List Nat) (h0 : 1 ≤ p.length) (h : p.length ≤ 4096) : parse (len4 p.length ++ (p ++ ys)) = (p :: (parse ys).1, (parse ys).2.1, (parse ys).2.2) := by
  have hn := len4_num p.length (by omega)
  have e0 : (len4 p.length ++ (p ++ ys)).length = 4 + (p.length + ys.length) := by rw [List.length_append, len4_len, List.length_append]
  have hh : headF (len4 p.length ++ (p ++ ys)) = 2 := by
    unfold headF
    rw [e0, take4, hn, if_neg (by omega), if_neg (by omega), if_neg (by omega)]
  have hp : payF (len4 p.length ++ (p ++ ys)) = p := by
    unfold payF
    rw [take4, drop4, hn, List.take_append_of_le_length (by omega), List.take_of_length_le (by omega)]
  have hr : restF (len4 p.length ++ (p ++ ys)) = ys := by
    unfold restF
    rw [take4, drop4, hn, List.drop_append_of_le_length (by omega), List.drop_of_length_le (by omega), List.nil_append]
  rw [parse_frame hh, hp, hr]
/-- a broken length at the head -/
theorem parse_broken (b : Nat) (ys : List Nat) (hb : b < 4294967296) (h : b = 0 ∨ 4096 < b) : parse (len4 b ++ ys) = ([], len4 b ++ ys, true) := by
  apply parse_bad
  unfold headF
  rw [take4, len4_num b hb, if_neg (by rw [List.length_append, len4_len]; omega), if_pos h]
def flatF (qs : List (List Nat)) : List Nat := qs.flatMap fun p => len4 p.length ++ p
theorem flatF_snoc (qs : List (List Nat)) (p : List Nat) : flatF (qs ++ [p]) = flatF qs ++ (len4 p.length ++ p) := by simp [flatF, List.flatMap_append]
theorem parse_flat (qs : List (List Nat)) (h : ∀ p ∈ qs, 1 ≤ p.length ∧ p.length ≤ 4096) : parse (flatF qs) = (qs, [], false) := by
  induction qs with
  | nil => exact parse_nil
  | cons p qs ih =>
    have hp := h p List.mem_cons_self
    have e : flatF (p :: qs) = len4 p.length ++ (p ++ flatF qs) := by simp [flatF, List.append_assoc]
    rw [e, parse_enc p _ hp.1 hp.2, ih (fun q hq => h q (List.mem_cons_of_mem _ hq))]
theorem flatF_small (qs : List (List Nat)) (h : ∀ p ∈ qs, p.length ≤ 4096) : (flatF qs).length ≤ 4100 * qs.length := by
  induction qs with
  | nil => simp [flatF]
  | cons p qs ih =>
    have h1 := ih (fun q hq => h q (List.mem_cons_of_mem _ hq))
    have h2 := h p List.mem_cons_self
    have e : (flatF (p :: qs)).length = 4 + p.length + (flatF qs).length := by
      show ((len4 p.length ++ p) ++ flatF qs).length = _
      rw [List.length_append, List.length_append, len4_len]
    rw [e, List.length_cons]; omega
theorem flatF_lt (qs : List (List Nat)) (h : ∀ p ∈ qs, ∀ x ∈ p, x < 256) : ∀ x ∈ flatF qs, x < 256 := by
  intro x hx
  obtain ⟨p, hp, hx⟩ := List.mem_flatMap.1 hx
  rcases List.mem_append.1 hx with hx | hx
  · exact len4_lt _ x hx
  · exact h p hp x hx
end Go.Proofs.Ythkdjjfnmlemdaa
