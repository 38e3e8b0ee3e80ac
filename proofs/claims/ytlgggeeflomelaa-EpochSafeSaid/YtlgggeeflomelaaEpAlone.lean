/- epochs in plain Lean: what a call does that is stepped alone. -/
import Derived.Test.YtlgggeeflomelaaEpRun
namespace Go.Proofs.Ytlgggeeflomelaa

/-- a call in the middle, nobody else having stepped since it began -/
def AloneOk (op was : Nat) (pn : Bool) (h0 : List (Int × Nat)) (pw0 : Nat → Nat) (thing : Int) (who : Nat) (s : ESt) : Prop :=
  s.ep = was ∧ (s.wk who).pinned = pn ∧ (s.wk who).held = h0 ∧ match (s.wk who).call with
    | .idle => False
    | .begun op' th => op' = op ∧ th = thing ∧ s.pw = pw0
    | .pinS _ e => op = 1 ∧ e = was
    | .pinL e => op = 1 ∧ e = was
    | .look _ e => op = 4 ∧ e = was ∧ s.pw = pw0
/-- it has returned -/
def FinOk (n op was : Nat) (pn : Bool) (h0 : List (Int × Nat)) (pw0 : Nat → Nat) (thing : Int) (who : Nat) (s : ESt) (r : ERes) : Prop :=
  (s.wk who).call = .idle ∧ ((op = 1 ∧ (s.wk who).pinned = true ∧ s.ep = was ∧ (s.wk who).held = h0 ∧ r = ⟨true, 0, was, []⟩) ∨ (op = 2 ∧ (s.wk who).pinned = false ∧ s.ep = was ∧ (s.wk who).held = h0 ∧ r = ⟨true, 0, 0, []⟩) ∨
    (op = 3 ∧ (s.wk who).pinned = pn ∧ s.ep = was ∧ (s.wk who).held = h0 ++ [(thing, was)] ∧ r = ⟨true, 0, was, []⟩) ∨
    (op = 4 ∧ (s.wk who).pinned = pn ∧ (s.wk who).held = h0 ∧ s.pw = pw0 ∧ ((s.ep = was + 1 ∧ r = ⟨true, 0, was + 1, []⟩) ∨ (s.ep = was ∧ r = ⟨true, 9, 0, []⟩ ∧ ∃ i, i < n ∧ pw0 i ≠ 0))) ∨
    (op = 5 ∧ (s.wk who).pinned = pn ∧ s.ep = was ∧ (s.wk who).held = stayOf was h0 ∧ r = ⟨true, 0, (oldOf was h0).length, oldOf was h0⟩))
theorem step_other {n who w : Nat} {s : ESt} (h : w ≠ who) : (eStep n s who).1.wk w = s.wk w := by
  unfold eStep
  split
  · rfl
  · split
    · exact put_other s _ h
    · split
      · exact put_other s _ h
      · split
        · exact put_other s _ h
        · split
          · exact put_other s _ h
          · exact put_other s _ h
  · exact put_other s _ h
  · split
    · exact put_other s _ h
    · exact put_other s _ h
  · split
    · split
      · exact put_other s _ h
      · exact put_other s _ h
    · split
      · exact put_other s _ h
      · exact put_other s _ h
theorem alone_step {n who op was : Nat} {pn : Bool} {h0 : List (Int × Nat)} {pw0 : Nat → Nat} {thing : Int} {s : ESt} (hI : EInv n s) (hw : who < n) (h : AloneOk op was pn h0 pw0 thing who s) :
    ((eStep n s who).2.done = true ∧ FinOk n op was pn h0 pw0 thing who (eStep n s who).1 (eStep n s who).2) ∨ ((eStep n s who).2.done = false ∧ AloneOk op was pn h0 pw0 thing who (eStep n s who).1) := by
  obtain ⟨a1, a2, a3, a4⟩ := h
  have hC : ECallX n s (s.wk who) := (hI who hw).2.1
  unfold ECallX at hC
  generalize hr : eStep n s who = r
  unfold eStep at hr
  cases hc : (s.wk who).call with
  | idle => rw [hc] at a4; exact a4.elim
  | begun op' th =>
    rw [hc] at a4 hC hr
    dsimp only at hr
    obtain ⟨rfl, rfl, a6⟩ := a4
    obtain ⟨o1, o5, _⟩ := hC
    rcases (by omega : op' = 1 ∨ op' = 2 ∨ op' = 3 ∨ op' = 4 ∨ op' = 5) with rfl | rfl | rfl | rfl | rfl
    · rw [if_pos rfl] at hr
      subst hr
      refine .inr ⟨rfl, a1, ?_, ?_, ?_⟩
      · show ((s.put who _).wk who).pinned = _; rw [put_self]; exact a2
      · show ((s.put who _).wk who).held = _; rw [put_self]; exact a3
      · rw [put_self]; exact ⟨rfl, a1⟩
    · rw [if_neg (by decide), if_pos rfl] at hr
      subst hr
      refine .inl ⟨rfl, ?_, .inr (.inl ⟨rfl, ?_, a1, ?_, rfl⟩)⟩
      · show ((s.put who _).wk who).call = _; rw [put_self]
      · show ((s.put who _).wk who).pinned = _; rw [put_self]
      · show ((s.put who _).wk who).held = _; rw [put_self]; exact a3
    · rw [if_neg (by decide), if_neg (by decide), if_pos rfl] at hr
      subst hr
      refine .inl ⟨rfl, ?_, .inr (.inr (.inl ⟨rfl, ?_, a1, ?_, ?_⟩))⟩
      · show ((s.put who _).wk who).call = _; rw [put_self]
      · show ((s.put who _).wk who).pinned = _; rw [put_self]; exact a2
      · show ((s.put who _).wk who).held = _; rw [put_self]; show (s.wk who).held ++ _ = _; rw [a3, a1]
      · rw [a1]
    · rw [if_neg (by decide), if_neg (by decide), if_neg (by decide), if_pos rfl] at hr
      subst hr
      refine .inr ⟨rfl, a1, ?_, ?_, ?_⟩
      · show ((s.put who _).wk who).pinned = _; rw [put_self]; exact a2
      · show ((s.put who _).wk who).held = _; rw [put_self]; exact a3
      · rw [put_self]; exact ⟨rfl, a1, a6⟩
    · rw [if_neg (by decide), if_neg (by decide), if_neg (by decide), if_neg (by decide)] at hr
      subst hr
      refine .inl ⟨rfl, ?_, .inr (.inr (.inr (.inr ⟨rfl, ?_, a1, ?_, ?_⟩)))⟩
      · show ((s.put who _).wk who).call = _; rw [put_self]
      · show ((s.put who _).wk who).pinned = _; rw [put_self]; exact a2
      · show ((s.put who _).wk who).held = _; rw [put_self]; show stayOf _ _ = _; rw [a3, a1]
      · rw [a3, a1]
  | pinS old e =>
    rw [hc] at a4 hr
    dsimp only at hr
    subst hr
    refine .inr ⟨rfl, a1, ?_, ?_, ?_⟩
    · show ((s.put who _).wk who).pinned = _; rw [put_self]; exact a2
    · show ((s.put who _).wk who).held = _; rw [put_self]; exact a3
    · show match ((s.put who _).wk who).call with | .idle => False | .begun op' th => _ | .pinS _ e => _ | .pinL e => _ | .look i e => _
      rw [put_self]
      exact a4
  | pinL e =>
    rw [hc] at a4 hr
    dsimp only at hr
    obtain ⟨rfl, he⟩ := a4
    rw [if_pos (by omega)] at hr
    subst hr
    refine .inl ⟨rfl, ?_, .inl ⟨rfl, ?_, a1, ?_, by rw [he]⟩⟩
    · show ((s.put who _).wk who).call = _; rw [put_self]
    · show ((s.put who _).wk who).pinned = _; rw [put_self]
    · show ((s.put who _).wk who).held = _; rw [put_self]; exact a3
  | look i e =>
    rw [hc] at a4 hC hr
    dsimp only at hr
    obtain ⟨rfl, rfl, a6⟩ := a4
    by_cases hi : i = n
    · rw [if_pos hi, if_pos a1] at hr
      subst hr
      refine .inl ⟨rfl, ?_, .inr (.inr (.inr (.inl ⟨rfl, ?_, ?_, a6, .inl ⟨rfl, rfl⟩⟩)))⟩
      · show ((s.put who _).wk who).call = _; rw [put_self]
      · show ((s.put who _).wk who).pinned = _; rw [put_self]; exact a2
      · show ((s.put who _).wk who).held = _; rw [put_self]; exact a3
    · rw [if_neg hi] at hr
      by_cases hb : s.pw i ≠ 0 ∧ s.pw i ≠ e + 1
      · rw [if_pos hb] at hr
        subst hr
        refine .inl ⟨rfl, ?_, .inr (.inr (.inr (.inl ⟨rfl, ?_, ?_, a6, .inr ⟨a1, rfl, i, by have := hC.1; omega, by rw [← a6]; exact hb.1⟩⟩)))⟩
        · show ((s.put who _).wk who).call = _; rw [put_self]
        · show ((s.put who _).wk who).pinned = _; rw [put_self]; exact a2
        · show ((s.put who _).wk who).held = _; rw [put_self]; exact a3
      · rw [if_neg hb] at hr
        subst hr
        refine .inr ⟨rfl, a1, ?_, ?_, ?_⟩
        · show ((s.put who _).wk who).pinned = _; rw [put_self]; exact a2
        · show ((s.put who _).wk who).held = _; rw [put_self]; exact a3
        · rw [put_self]; exact ⟨rfl, rfl, a6⟩
theorem alone_start {op : Nat} {thing : Int} {who : Nat} {s : ESt} : AloneOk op s.ep (s.wk who).pinned (s.wk who).held s.pw thing who (s.put who { s.wk who with call := .begun op thing }) := by
  refine ⟨rfl, ?_, ?_, ?_⟩
  · rw [put_self]
  · rw [put_self]
  · rw [put_self]; exact ⟨rfl, rfl, rfl⟩
theorem alone_busy {op was : Nat} {pn : Bool} {h0 : List (Int × Nat)} {pw0 : Nat → Nat} {thing : Int} {who : Nat} {s : ESt} (h : AloneOk op was pn h0 pw0 thing who s) : (s.wk who).call ≠ .idle := by
  obtain ⟨_, _, _, h⟩ := h
  intro e
  rw [e] at h
  exact h
/-- a run of a call alone -/
theorem run_alone {n who op was : Nat} {pn : Bool} {h0 : List (Int × Nat)} {pw0 : Nat → Nat} {thing : Int} : ∀ (m : Nat) (s : ESt), EInv n s → who < n → AloneOk op was pn h0 pw0 thing who s → leftOf n s who ≤ m →
    FinOk n op was pn h0 pw0 thing who (eRun n who m s).1 (eRun n who m s).2 ∧ (∀ w, w ≠ who → (eRun n who m s).1.wk w = s.wk w) ∧ EInv n (eRun n who m s).1
  | 0, s, _, _, ha, hl => by have := left_pos (n := n) (alone_busy ha); omega
  | m + 1, s, hI, hw, ha, hl => by
    have hstep := left_step hI hw (alone_busy ha)
    rcases alone_step hI hw ha with ⟨hd, hf⟩ | ⟨hd, hn⟩
    · have e : eRun n who (m + 1) s = eStep n s who := if_pos hd
      rw [e]
      exact ⟨hf, fun w h => step_other h, einv_step hI hw⟩
    · have e : eRun n who (m + 1) s = eRun n who m (eStep n s who).1 := if_neg (by rw [hd]; exact Bool.false_ne_true)
      rw [e]
      have hlt : leftOf n (eStep n s who).1 who ≤ m := by
        rcases hstep with ⟨hd', _⟩ | ⟨_, _, hl', _⟩
        · rw [hd] at hd'; cases hd'
        · omega
      obtain ⟨r1, r2, r3⟩ := run_alone m (eStep n s who).1 (einv_step hI hw) hw hn hlt
      exact ⟨r1, fun w h => (r2 w h).trans (step_other h), r3⟩
end Go.Proofs.Ytlgggeeflomelaa
