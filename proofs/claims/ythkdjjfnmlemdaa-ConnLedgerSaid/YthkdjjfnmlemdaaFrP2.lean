/- Frames: a stream cut in two. -/
import Derived.Test.YthkdjjfnmlemdaaFrPlain
namespace Go.Proofs.Ythkdjjfnmlemdaa
open Go.RowKit

theorem headF_app {xs : List Nat} (ys : List Nat) (h : headF xs ≠ 0) : 4 ≤ xs.length ∧ headF (xs ++ ys) = headF xs := by
  unfold headF at h ⊢
  by_cases h4 : xs.length < 4
  · rw [if_pos h4] at h; exact absurd rfl h
  · refine ⟨by omega, ?_⟩
    rw [if_neg h4] at h ⊢
    have e1 : (xs ++ ys).take 4 = xs.take 4 := by rw [List.take_append_of_le_length (by omega)]
    have e2 : ¬ (xs ++ ys).length < 4 := by rw [List.length_append]; omega
    rw [if_neg e2, e1]
    by_cases h5 : numB (xs.take 4) = 0 ∨ 4096 < numB (xs.take 4)
    · rw [if_pos h5, if_pos h5]
    · rw [if_neg h5] at h ⊢
      rw [if_neg h5]
      by_cases h6 : xs.length - 4 < numB (xs.take 4)
      · rw [if_pos h6] at h; exact absurd rfl h
      · rw [if_neg h6, if_neg (by rw [List.length_append]; omega)]
theorem payF_app {xs : List Nat} (ys : List Nat) (h : headF xs = 2) : payF (xs ++ ys) = payF xs ∧ restF (xs ++ ys) = restF xs ++ ys := by
  have h1 := restF_lt h
  have e1 : (xs ++ ys).take 4 = xs.take 4 := by rw [List.take_append_of_le_length (by omega)]
  have e2 : (xs ++ ys).drop 4 = xs.drop 4 ++ ys := by rw [List.drop_append_of_le_length (by omega)]
  unfold payF restF
  rw [e1, e2]
  have hl : (xs.drop 4).length = xs.length - 4 := by rw [List.length_drop]
  exact ⟨by rw [List.take_append_of_le_length (by omega)], by rw [List.drop_append_of_le_length (by omega)]⟩
theorem parse_app : ∀ (n : Nat) (xs ys : List Nat), xs.length < n →
    ((parse xs).2.2 = true → (parse (xs ++ ys)).1 = (parse xs).1 ∧ (parse (xs ++ ys)).2.2 = true) ∧
    ((parse xs).2.2 = false → (parse (xs ++ ys)).1 = (parse xs).1 ++ (parse ((parse xs).2.1 ++ ys)).1 ∧ (parse (xs ++ ys)).2 = (parse ((parse xs).2.1 ++ ys)).2)
  | 0, _, _, h => by omega
  | n + 1, xs, ys, hn => by
    rcases headF_cases xs with h | h | h
    · rw [parse_wait h]
      exact ⟨(fun e => by cases e), fun _ => ⟨rfl, rfl⟩⟩
    · rw [parse_bad h]
      have h' := (headF_app (xs := xs) ys (by omega)).2
      rw [h] at h'
      rw [parse_bad h']
      exact ⟨fun _ => ⟨rfl, rfl⟩, fun e => by cases e⟩
    · have h1 := (restF_lt h).1
      have h' := (headF_app (xs := xs) ys (by omega)).2
      rw [h] at h'
      obtain ⟨e1, e2⟩ := payF_app ys h
      rw [parse_frame h, parse_frame h', e1, e2]
      have ih := parse_app n (restF xs) ys (by omega)
      refine ⟨fun e => ?_, fun e => ?_⟩
      · obtain ⟨k1, k2⟩ := ih.1 e
        exact ⟨by simp only [k1], k2⟩
      · obtain ⟨k1, k2⟩ := ih.2 e
        refine ⟨by simp only [k1, List.cons_append], ?_⟩
        simp only [k2]
theorem parse_small : ∀ (n : Nat) (xs : List Nat), xs.length < n →
    (parse xs).1.length + (parse xs).2.1.length ≤ xs.length ∧ (∀ x ∈ (parse xs).2.1, x ∈ xs) ∧ ∀ ps ∈ (parse xs).1, ps.length ≤ 4096 ∧ ∀ x ∈ ps, x ∈ xs
  | 0, _, h => by omega
  | n + 1, xs, hn => by
    rcases headF_cases xs with h | h | h
    · rw [parse_wait h]; simp
    · rw [parse_bad h]; simp
    · have h1 := restF_lt h
      rw [parse_frame h]
      obtain ⟨i1, i2, i3⟩ := parse_small n (restF xs) (by omega)
      have hm : ∀ x ∈ restF xs, x ∈ xs := fun x hx => List.mem_of_mem_drop (List.mem_of_mem_drop hx)
      refine ⟨by simp only [List.length_cons]; omega, fun x hx => hm x (i2 x hx), fun ps hp => ?_⟩
      rcases List.mem_cons.1 hp with rfl | hp
      · exact ⟨by omega, fun x hx => List.mem_of_mem_drop (List.mem_of_mem_take hx)⟩
      · exact ⟨(i3 ps hp).1, fun x hx => hm x ((i3 ps hp).2 x hx)⟩
def endF (ws : List Nat) : Int := if (parse ws).2.2 = true then 12 else 0
def leftF (ws : List Nat) : List Nat := if (parse ws).2.2 = true then [] else (parse ws).2.1
theorem leftF_small (ws : List Nat) : (leftF ws).length ≤ ws.length ∧ ∀ x ∈ leftF ws, x ∈ ws := by
  obtain ⟨h1, h2, _⟩ := parse_small (ws.length + 1) ws (by omega)
  unfold leftF
  split
  · simp
  · exact ⟨by omega, h2⟩
theorem parse_nil : parse [] = ([], [], false) := parse_wait rfl
/-- a step of a stream that is whole still -/
theorem parse_step {xs ys : List Nat} (h : (parse xs).2.2 = false) : (parse (xs ++ ys)).1 = (parse xs).1 ++ (parse (leftF xs ++ ys)).1 ∧ endF (xs ++ ys) = endF (leftF xs ++ ys) ∧ leftF (xs ++ ys) = leftF (leftF xs ++ ys) ∧ (parse (xs ++ ys)).2.2 = (parse (leftF xs ++ ys)).2.2 := by
  obtain ⟨h1, h2⟩ := (parse_app (xs.length + 1) xs ys (by omega)).2 h
  have e : leftF xs = (parse xs).2.1 := by unfold leftF; rw [if_neg (by rw [h]; simp)]
  rw [e]
  unfold endF leftF
  rw [h1, h2]
  exact ⟨rfl, rfl, rfl, rfl⟩
/-- and of one that is broken -/
theorem parse_stop {xs ys : List Nat} (h : (parse xs).2.2 = true) : (parse (xs ++ ys)).1 = (parse xs).1 ∧ endF (xs ++ ys) = 12 ∧ leftF (xs ++ ys) = [] ∧ (parse (xs ++ ys)).2.2 = true := by
  obtain ⟨h1, h2⟩ := (parse_app (xs.length + 1) xs ys (by omega)).1 h
  unfold endF leftF
  rw [h1, h2]
  exact ⟨rfl, rfl, rfl, rfl⟩
end Go.Proofs.Ythkdjjfnmlemdaa
