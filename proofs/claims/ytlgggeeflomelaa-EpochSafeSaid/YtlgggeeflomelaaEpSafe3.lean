/- EpochSafe in plain Lean: whoever is under way is stepped to its end, whoever is pinned is unpinned. -/
import Derived.Test.YtlgggeeflomelaaEpSafe2
namespace Go.Proofs.Ytlgggeeflomelaa

theorem left_le {s : ESt} {who : Nat} : leftOf 4 s who ≤ 6 := by
  unfold leftOf
  split
  · omega
  · split
    · omega
    · split <;> omega
  · split <;> omega
  · split <;> omega
  · omega
theorem left_next {s : ESt} {who j : Nat} (hI : EInv 4 s) (hw : who < 4) (hs : (s.wk who).call ≠ .idle) (h : leftOf 4 s who + j ≤ 6) : leftOf 4 (eStep 4 s who).1 who + (j + 1) ≤ 6 := by
  have hp := left_pos (n := 4) hs
  rcases left_step hI hw hs with ⟨_, h2⟩ | ⟨_, _, h2, _⟩
  · have : leftOf 4 (eStep 4 s who).1 who = 0 := by unfold leftOf; rw [h2]
    omega
  · omega
/-- of whom all is done -/
def DoneTo (s : ESt) (d : Nat) : Prop := ∀ j, j < d → (s.wk j).call = .idle ∧ (s.wk j).pinned = false
theorem done_step {s : ESt} {d : Nat} (h : DoneTo s d) : DoneTo (eStep 4 s d).1 d := fun j hj => by
  rw [step_other (by omega)]
  exact h j hj
theorem done_next {s : ESt} {d : Nat} (h : DoneTo s d) (h1 : (s.wk d).call = .idle) (h2 : (s.wk d).pinned = false) : DoneTo s (d + 1) := fun j hj => by
  by_cases e : j = d
  · subst e; exact ⟨h1, h2⟩
  · exact h j (by omega)
theorem done_put {s : ESt} {d : Nat} {x : EWk} (h : DoneTo s d) : DoneTo (s.put d x) d := fun j hj => by
  rw [put_other s x (by omega)]
  exact h j hj
/-- an Unpin is one step -/
theorem unpin_step {s : ESt} {d : Nat} {th : Int} : let s' := (eStep 4 (s.put d { s.wk d with call := .begun 2 th }) d).1; (s'.wk d).call = .idle ∧ (s'.wk d).pinned = false := by
  have e : (s.put d { s.wk d with call := .begun 2 th }).wk d = { s.wk d with call := .begun 2 th } := put_self s d _
  unfold eStep
  rw [e]
  dsimp only
  rw [if_neg (by decide), if_pos rfl]
  have e2 : (((s.put d { s.wk d with call := .begun 2 th }).put d ⟨.idle, false, (s.wk d).held⟩).wk d) = ⟨.idle, false, (s.wk d).held⟩ := put_self _ d _
  exact ⟨by show (((s.put d _).put d _).wk d).call = _; rw [e2], by show (((s.put d _).put d _).wk d).pinned = _; rw [e2]⟩
/-- as it was at the end of the calls, some Advances later -/
def AdvTo (s0 s : ESt) (j : Nat) : Prop := EndOk s ∧ s.ep = s0.ep + j ∧ ∀ w, (s.wk w).held = (s0.wk w).held
theorem adv_old {s0 s : ESt} (h : AdvTo s0 s 3) (hI : EInv 4 s0) {w : Nat} (hw : w < 4) : ∀ x ∈ (s.wk w).held, x.2 + 2 ≤ s.ep := fun x hx => by
  rw [h.2.2 w] at hx
  have := (hI w hw).2.2 x hx
  have := h.2.1
  omega
/-- the first ones have collected all that they held -/
def CollTo (s0 s : ESt) (d : Nat) : Prop := EndOk s ∧ s.ep = s0.ep ∧ ∀ w, d ≤ w → (s.wk w).held = (s0.wk w).held
end Go.Proofs.Ytlgggeeflomelaa
