/- Requests as bytes: plain. -/
import Derived.Test.YthkdjjfnmlemdaaTokH
namespace Go.Proofs.Ythkdjjfnmlemdaa
open Go.RowKit

/-- a call's value -/
abbrev callV (op p : Int) (A : Option Addr) (n c : Nat) (N : Int) : Value := .agg #[.int .u8 op, .int .i64 p, .slice A n c, .int .i64 N]
abbrev callZ : Value := callV 0 0 none 0 0 0
/-- the bytes of a right call -/
def reqB (op p : Nat) (xs : List Nat) (N : Nat) : List Nat :=
  if op = 3 then 3 :: tokB p xs N else if op = 5 ∨ op = 6 then [op] else op :: p :: xs.length :: (xs ++ if op = 1 then wordB N 8 else [])
/-- a right call -/
def RightC (op p : Nat) (xs : List Nat) (N : Nat) : Prop :=
  1 ≤ op ∧ op ≤ 6 ∧ (op < 5 → p < 32 ∧ xs.length ≤ 255) ∧ (op = 1 → N ≤ 4611686018427387903) ∧ (op = 3 → 1 ≤ N ∧ N ≤ 4611686018427387903)
/-- a right call, fields that its form lacks at nought -/
def NormC (op p : Nat) (xs : List Nat) (N : Nat) : Prop :=
  RightC op p xs N ∧ (∀ x ∈ xs, x < 256) ∧ (5 ≤ op → p = 0 ∧ xs = [] ∧ N = 0) ∧ (op = 2 ∨ op = 4 → N = 0)
/-- bytes of a right call -/
def IsReq (ys : List Nat) : Prop := ∃ op p xs N, NormC op p xs N ∧ ys = reqB op p xs N
theorem reqB_lt {op p N : Nat} {xs : List Nat} (h : RightC op p xs N) (hb : ∀ x ∈ xs, x < 256) : ∀ x ∈ reqB op p xs N, x < 256 := by
  obtain ⟨h1, h2, h3, _, _⟩ := h
  intro x hx
  unfold reqB at hx
  split at hx
  · rename_i ho
    obtain ⟨hp, hl⟩ := h3 (by omega)
    rcases List.mem_cons.1 hx with rfl | hx
    · omega
    · exact tokB_lt p N xs (by omega) (by omega) hb x hx
  · split at hx
    · rw [List.mem_singleton.1 hx]; omega
    · obtain ⟨hp, hl⟩ := h3 (by omega)
      simp only [List.mem_cons, List.mem_append] at hx
      rcases hx with rfl | rfl | rfl | hx | hx
      · omega
      · omega
      · omega
      · exact hb x hx
      · split at hx
        · exact wordB_lt _ _ x hx
        · cases hx
/-- what Request answers -/
def ReqIs (op : Nat) (p : Int) (xs : List Nat) (N : Int) (q : Int) (L : List Nat) : Prop :=
  ((q == 0) = false ∧ L = [] ∧ ¬ ∃ P M : Nat, (op < 5 → p = (P : Int)) ∧ (op = 1 ∨ op = 3 → N = (M : Int)) ∧ RightC op P xs M) ∨ (q = 0 ∧ ∃ P M : Nat, (op < 5 → p = (P : Int)) ∧ (op = 1 ∨ op = 3 → N = (M : Int)) ∧ RightC op P xs M ∧ L = reqB op P xs M)
theorem not_right {op : Nat} {p : Int} {xs : List Nat} {N : Int} (h : op < 1 ∨ 6 < op ∨ (op < 5 ∧ (p < 0 ∨ 32 ≤ p ∨ 255 < xs.length)) ∨ (op = 1 ∧ (N < 0 ∨ 4611686018427387903 < N)) ∨ (op = 3 ∧ (N < 1 ∨ 4611686018427387903 < N))) :
    ¬ ∃ P M : Nat, (op < 5 → p = (P : Int)) ∧ (op = 1 ∨ op = 3 → N = (M : Int)) ∧ RightC op P xs M := by
  rintro ⟨P, M, h1, h2, h3, h4, h5, h6, h7⟩
  rcases h with h | h | ⟨h, h'⟩ | ⟨rfl, h⟩ | ⟨rfl, h⟩
  · omega
  · omega
  · have := h1 h; have := h5 h; omega
  · have := h2 (.inl rfl); have := h6 rfl; omega
  · have := h2 (.inr rfl); have := h7 rfl; omega
end Go.Proofs.Ythkdjjfnmlemdaa
