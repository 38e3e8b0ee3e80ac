/- Frames of a stream of bytes: the plain part. -/
import Derived.Test.YthkdjjfnmlemdaaBase2
namespace Go.Proofs.Ythkdjjfnmlemdaa
open Go.RowKit

/-- a number out of bytes, the highest first -/
def numB (xs : List Nat) : Nat := xs.foldl (fun n x => n * 256 + x) 0
theorem numB_snoc (xs : List Nat) (x : Nat) : numB (xs ++ [x]) = numB xs * 256 + x := by rw [numB, List.foldl_append, List.foldl_cons, List.foldl_nil, numB]
theorem numB_nil : numB [] = 0 := by rw [numB, List.foldl_nil]
theorem numB_go (xs : List Nat) : ∀ a, (∀ x ∈ xs, x < 256) → xs.foldl (fun n x => n * 256 + x) a < (a + 1) * 256 ^ xs.length := by
  induction xs with
  | nil => intro a _; rw [List.foldl_nil, List.length_nil, Nat.pow_zero]; omega
  | cons x xs ih =>
    intro a h
    have h1 := ih (a * 256 + x) (fun y hy => h y (List.mem_cons_of_mem _ hy))
    have h2 := h x List.mem_cons_self
    rw [List.foldl_cons, List.length_cons, Nat.pow_succ]
    have h3 : (a * 256 + x + 1) * 256 ^ xs.length ≤ (a + 1) * 256 * 256 ^ xs.length := Nat.mul_le_mul_right _ (by omega)
    rw [Nat.mul_comm (256 ^ xs.length) 256, ← Nat.mul_assoc]
    omega
theorem numB_lt (xs : List Nat) (h : ∀ x ∈ xs, x < 256) : numB xs < 256 ^ xs.length := by
  have := numB_go xs 0 h
  rw [numB]
  omega

/-- what stands at a stream's head: 0: not whole; 1: a wrong length; 2: a frame -/
def headF (ws : List Nat) : Nat :=
  if ws.length < 4 then 0 else if numB (ws.take 4) = 0 ∨ 4096 < numB (ws.take 4) then 1 else if ws.length - 4 < numB (ws.take 4) then 0 else 2
def payF (ws : List Nat) : List Nat := (ws.drop 4).take (numB (ws.take 4))
def restF (ws : List Nat) : List Nat := (ws.drop 4).drop (numB (ws.take 4))
theorem restF_lt {ws : List Nat} (h : headF ws = 2) : (restF ws).length < ws.length ∧ (payF ws).length = numB (ws.take 4) ∧ 1 ≤ numB (ws.take 4) ∧ numB (ws.take 4) ≤ 4096 ∧ 4 ≤ ws.length ∧ 4 + numB (ws.take 4) ≤ ws.length := by
  unfold headF at h
  by_cases h1 : ws.length < 4
  · rw [if_pos h1] at h; omega
  · rw [if_neg h1] at h
    by_cases h2 : numB (ws.take 4) = 0 ∨ 4096 < numB (ws.take 4)
    · rw [if_pos h2] at h; omega
    · rw [if_neg h2] at h
      by_cases h3 : ws.length - 4 < numB (ws.take 4)
      · rw [if_pos h3] at h; omega
      · simp only [restF, payF, List.length_drop, List.length_take]
        omega

/-- the payloads of a stream's whole frames; what is left; whether a wrong length stands there -/
def parseN : Nat → List Nat → List (List Nat) × List Nat × Bool
  | 0, ws => ([], ws, false)
  | f + 1, ws => if headF ws = 0 then ([], ws, false) else if headF ws = 1 then ([], ws, true) else
    (payF ws :: (parseN f (restF ws)).1, (parseN f (restF ws)).2.1, (parseN f (restF ws)).2.2)
theorem parseN_more : ∀ (f g : Nat) (ws : List Nat), ws.length < f → ws.length < g → parseN f ws = parseN g ws
  | 0, _, _, h, _ => by omega
  | _ + 1, 0, _, _, h => by omega
  | f + 1, g + 1, ws, h1, h2 => by
    unfold parseN
    by_cases e0 : headF ws = 0
    · rw [if_pos e0, if_pos e0]
    · by_cases e1 : headF ws = 1
      · rw [if_neg e0, if_pos e1, if_neg e0, if_pos e1]
      · rw [if_neg e0, if_neg e1, if_neg e0, if_neg e1]
        have e2 : headF ws = 2 := by
          unfold headF at e0 e1 ⊢
          split
          · rename_i h; rw [if_pos h] at e0; omega
          · rename_i h
            rw [if_neg h] at e0 e1
            split
            · rename_i h'; rw [if_pos h'] at e1; omega
            · rename_i h'
              rw [if_neg h'] at e0
              split
              · rename_i h''; rw [if_pos h''] at e0; omega
              · rfl
        have := (restF_lt e2).1
        rw [parseN_more f g (restF ws) (by omega) (by omega)]
def parse (ws : List Nat) : List (List Nat) × List Nat × Bool := parseN (ws.length + 1) ws
theorem headF_cases (ws : List Nat) : headF ws = 0 ∨ headF ws = 1 ∨ headF ws = 2 := by
  unfold headF
  split
  · exact .inl rfl
  · split
    · exact .inr (.inl rfl)
    · split
      · exact .inl rfl
      · exact .inr (.inr rfl)
theorem parse_wait {ws : List Nat} (h : headF ws = 0) : parse ws = ([], ws, false) := by
  unfold parse parseN; rw [if_pos h]
theorem parse_bad {ws : List Nat} (h : headF ws = 1) : parse ws = ([], ws, true) := by
  unfold parse parseN; rw [if_neg (by omega), if_pos h]
theorem parse_frame {ws : List Nat} (h : headF ws = 2) : parse ws = (payF ws :: (parse (restF ws)).1, (parse (restF ws)).2.1, (parse (restF ws)).2.2) := by
  have hl := (restF_lt h).1
  unfold parse
  conv => lhs; unfold parseN
  rw [if_neg (by omega), if_neg (by omega), parseN_more ws.length ((restF ws).length + 1) (restF ws) (by omega) (by omega)]
end Go.Proofs.Ythkdjjfnmlemdaa
