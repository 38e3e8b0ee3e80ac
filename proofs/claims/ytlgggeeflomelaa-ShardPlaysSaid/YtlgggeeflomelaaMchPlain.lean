/- Accesses as cells. No program in sight. -/
import Derived.Test.YtlgggeeflomelaaGb
namespace Go.Proofs.Ytlgggeeflomelaa
open Go.RowKit

/-- an access by its parts -/
structure AccE where
  who : Int
  kind : Int
  word : Int
  old : Nat
  new : Nat
  done : Bool
def AccE.cells (a : AccE) : List Value := [.int .i64 a.who, .int .u8 a.kind, .int .i64 a.word, .int .u64 (a.old : Int), .int .u64 (a.new : Int), .bool a.done]
def accs (L : List AccE) : List Value := L.flatMap AccE.cells
theorem accs_nil : accs [] = [] := rfl
theorem accs_cons (a : AccE) (L : List AccE) : accs (a :: L) = a.cells ++ accs L := by simp [accs]
theorem accs_len (L : List AccE) : (accs L).length = L.length * 6 := by
  induction L with
  | nil => rfl
  | cons a L ih => rw [accs_cons, List.length_append, ih, List.length_cons]; simp [AccE.cells]; omega
theorem accs_app (L M : List AccE) : accs (L ++ M) = accs L ++ accs M := by simp [accs]
theorem accs_one' (a : AccE) : accs [a] = a.cells := by simp [accs]
theorem accs_drop : ∀ (k : Nat) (L : List AccE), accs (L.drop k) = (accs L).drop (k * 6)
  | 0, L => by simp
  | k + 1, [] => by simp [accs]
  | k + 1, a :: L => by
    rw [List.drop_succ_cons, accs_drop k L, accs_cons, show (k + 1) * 6 = a.cells.length + k * 6 by simp [AccE.cells]; omega, List.drop_append]
    simp
theorem accs_get {L : List AccE} {i : Nat} {a : AccE} (h : L[i]? = some a) (j : Nat) (hj : j < 6) : (accs L)[i * 6 + j]? = a.cells[j]? := by
  induction L generalizing i with
  | nil => simp at h
  | cons b L ih =>
    rw [accs_cons]
    cases i with
    | zero =>
      simp at h
      subst h
      rw [Nat.zero_mul, Nat.zero_add, List.getElem?_append_left (by simp [AccE.cells]; omega)]
    | succ i =>
      rw [List.getElem?_append_right (by simp [AccE.cells]; omega), show (i + 1) * 6 + j - b.cells.length = i * 6 + j by simp [AccE.cells]; omega]
      exact ih (by simpa using h)
theorem accs_one (L : List AccE) : ∀ u ∈ accs L, u.oneCell' = true := by
  intro u hu
  obtain ⟨a, _, h⟩ := List.mem_flatMap.1 hu
  simp [AccE.cells] at h
  rcases h with rfl | rfl | rfl | rfl | rfl | rfl <;> rfl
end Go.Proofs.Ytlgggeeflomelaa
