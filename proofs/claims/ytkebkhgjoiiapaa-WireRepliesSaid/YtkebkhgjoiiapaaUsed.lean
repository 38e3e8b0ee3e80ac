/- the statements' used; the document's Same of calls. -/
import Derived.Test.YtkebkhgjoiiapaaReadQ
namespace Go.Proofs.Ytkebkhgjoiiapaa
open Go.RowKit

/-- the number that counts -/
def usedN (op : Int) (N : Int) : Int := if op = 2 ∨ op = 4 then 0 else N
theorem used_big (w : World) (op p N : Int) (A : Option Addr) (n c : Nat) (h : 4 < op) :
    Calls Try.prog 44 #[callV op p A n c N] w (RetE (callV op 0 none 0 0 0) w) := by
  go_enter Try.func44, Try.ntmps44
  go_wp2_with fail
  refine bodyPost_ret (ret_call1 rfl rfl (blk_newk _ _ (by simp))) rfl ?_
  exact ⟨rfl, ((Ext.refl w).alloc _).alloc _⟩
theorem used_24 (w : World) (op p N : Int) (A : Option Addr) (n c : Nat) (h : op = 2 ∨ op = 4) :
    Calls Try.prog 44 #[callV op p A n c N] w (RetE (callV op p A n c 0) w) := by
  have hh : (op == 2) = true ∨ ((op == 2) = false ∧ (op == 4) = true) := by
    rcases h with h | h
    · left; rw [beq_iff_eq]; exact h
    · right; exact ⟨by rw [beq_eq_false_iff_ne]; omega, by rw [beq_iff_eq]; exact h⟩
  have h4 : op ≤ 4 := by omega
  clear h
  rcases hh with h2 | ⟨h2, h2'⟩
  all_goals
    go_enter Try.func44, Try.ntmps44
    go_wp2_with fail
    refine bodyPost_ret (ret_call1 rfl rfl (blk_newk _ _ (by simp))) rfl ?_
    exact ⟨rfl, ((Ext.refl w).alloc _).alloc _⟩
theorem used_13 (w : World) (op p N : Int) (A : Option Addr) (n c : Nat) (h4 : op ≤ 4) (h : ¬ (op = 2 ∨ op = 4)) :
    Calls Try.prog 44 #[callV op p A n c N] w (RetE (callV op p A n c N) w) := by
  have h2 : (op == 2) = false := by rw [beq_eq_false_iff_ne]; omega
  have h3 : (op == 4) = false := by rw [beq_eq_false_iff_ne]; omega
  clear h
  go_enter Try.func44, Try.ntmps44
  go_wp2_with fail
  refine bodyPost_ret (ret_call1 rfl rfl (blk_newk _ _ (by simp))) rfl ?_
  exact ⟨rfl, ((Ext.refl w).alloc _).alloc _⟩
end Go.Proofs.Ytkebkhgjoiiapaa
