/- epochs in plain Lean: numbers stay small; a call that is stepped alone. -/
import Derived.Test.YtlgggeeflomelaaEpPlain2
namespace Go.Proofs.Ytlgggeeflomelaa

/-- numbers stay small -/
def EBd (k : Nat) (s : ESt) : Prop := s.ep ≤ k ∧ ∀ w, s.pw w ≤ k + 1 ∧ (s.wk w).held.length ≤ k
theorem EBd.more {k k' : Nat} {s : ESt} (h : EBd k s) (hk : k ≤ k') : EBd k' s := ⟨by have := h.1; omega, fun w => by have := h.2 w; omega⟩
theorem ebd_put {k : Nat} {s : ESt} {who : Nat} {x : EWk} (h : EBd k s) (hx : x.held.length ≤ k) : EBd k (s.put who x) := ⟨h.1, fun w => ⟨(h.2 w).1, by
  by_cases e : w = who
  · subst e; rw [put_self]; exact hx
  · rw [put_other s x e]; exact (h.2 w).2⟩⟩
theorem ebd_pw {k : Nat} {s : ESt} {f : Nat → Nat} (h : EBd k s) (hf : ∀ w, f w ≤ k + 1) : EBd k { s with pw := f } := ⟨h.1, fun w => ⟨hf w, (h.2 w).2⟩⟩
theorem ebd_upd {k : Nat} {f : Nat → Nat} {who x : Nat} (h : ∀ w, f w ≤ k) (hx : x ≤ k) : ∀ w, updG f who x w ≤ k := fun w => by
  by_cases e : w = who
  · subst e; rw [updG_self]; exact hx
  · rw [updG_other _ _ e]; exact h w
theorem ebd_step {n who k : Nat} {s : ESt} (h : EBd k s) (hI : EInv n s) (hw : who < n) : EBd (k + 1) (eStep n s who).1 := by
  have h' := h.more (Nat.le_succ k)
  have hl := (h.2 who).2
  have hp : ∀ w, s.pw w ≤ k + 1 + 1 := fun w => by have := (h.2 w).1; omega
  have hE := (hI who hw).1
  have hC : ECallX n s (s.wk who) := (hI who hw).2.1
  unfold ECallX at hC
  unfold EWord at hE
  unfold eStep
  split
  · exact h'
  · split
    · exact ebd_put h' (by show (s.wk who).held.length ≤ _; omega)
    · split
      · exact ebd_pw (s := s.put who _) (ebd_put h' (by show (s.wk who).held.length ≤ _; omega)) (ebd_upd hp (by omega))
      · split
        · exact ebd_put h' (by show ((s.wk who).held ++ [_]).length ≤ _; rw [List.length_append, List.length_singleton]; omega)
        · split
          · exact ebd_put h' (by show (s.wk who).held.length ≤ _; omega)
          · exact ebd_put h' (by show (stayOf _ _).length ≤ _; unfold stayOf; have := List.length_filter_le (fun t => !isOld s.ep t) (s.wk who).held; omega)
  · next old e hc =>
    rw [hc] at hC
    have hnp : (s.wk who).pinned = false := hC
    rw [if_neg (pinned_false hnp), hc] at hE
    refine ebd_pw (s := s.put who _) (ebd_put h' (by show (s.wk who).held.length ≤ _; omega)) (fun w => ?_)
    split
    · exact ebd_upd hp (by have := hE.2; have := h.1; omega) w
    · exact hp w
  · split
    · exact ebd_put h' (by show (s.wk who).held.length ≤ _; omega)
    · exact ebd_put h' (by show (s.wk who).held.length ≤ _; omega)
  · split
    · split
      · next he =>
        have := ebd_put (who := who) (x := { s.wk who with call := .idle }) h' (by show (s.wk who).held.length ≤ _; omega)
        exact ⟨by show _ + 1 ≤ _; have := h.1; omega, this.2⟩
      · exact ebd_put h' (by show (s.wk who).held.length ≤ _; omega)
    · split
      · exact ebd_put h' (by show (s.wk who).held.length ≤ _; omega)
      · exact ebd_put h' (by show (s.wk who).held.length ≤ _; omega)
/-- stepped alone, a call returns within so many steps -/
def leftOf (n : Nat) (s : ESt) (who : Nat) : Nat :=
  match (s.wk who).call with
  | .idle => 0
  | .begun op _ => if op = 1 then 3 else if op = 4 then n + 2 else 1
  | .pinS _ e => if e = s.ep then 2 else 4
  | .pinL e => if e = s.ep then 1 else 3
  | .look i _ => n - i + 1
theorem left_call {n who : Nat} {s : ESt} {x : EWk} {f : Nat → Nat} : leftOf n { s.put who x with pw := f } who = (match x.call with
  | .idle => 0
  | .begun op _ => if op = 1 then 3 else if op = 4 then n + 2 else 1
  | .pinS _ e => if e = s.ep then 2 else 4
  | .pinL e => if e = s.ep then 1 else 3
  | .look i _ => n - i + 1) := by
  unfold leftOf
  have : ({ s.put who x with pw := f } : ESt).wk who = x := put_self s who x
  rw [this]
  rfl
/-- a step of a call: it returns, and no call is under way; or fewer are left -/
theorem left_step {n who : Nat} {s : ESt} (hI : EInv n s) (hw : who < n) (hs : (s.wk who).call ≠ .idle) :
    ((eStep n s who).2.done = true ∧ ((eStep n s who).1.wk who).call = .idle) ∨ ((eStep n s who).2.done = false ∧ ((eStep n s who).1.wk who).call ≠ .idle ∧ leftOf n (eStep n s who).1 who + 1 ≤ leftOf n s who ∧ (eStep n s who).1.ep = s.ep) := by
  have hC : ECallX n s (s.wk who) := (hI who hw).2.1
  unfold ECallX at hC
  generalize hr : eStep n s who = r
  unfold eStep at hr
  cases hc : (s.wk who).call with
  | idle => exact absurd hc hs
  | begun op thing =>
    rw [hc] at hr
    dsimp only at hr
    have hl : leftOf n s who = if op = 1 then 3 else if op = 4 then n + 2 else 1 := by unfold leftOf; rw [hc]
    rw [hl]
    by_cases e1 : op = 1
    · rw [if_pos e1] at hr ⊢
      subst hr
      refine .inr ⟨rfl, ?_, ?_, rfl⟩
      · show ((s.put who _).wk who).call ≠ _; rw [put_self]; exact fun h => by cases h
      · have := left_call (n := n) (s := s) (who := who) (x := { s.wk who with call := .pinS 0 s.ep }) (f := s.pw)
        rw [show leftOf n (s.put who { s.wk who with call := .pinS 0 s.ep }) who = _ from this]
        show (if s.ep = s.ep then 2 else 4) + 1 ≤ 3
        rw [if_pos rfl]
        exact Nat.le_refl _
    · rw [if_neg e1] at hr ⊢
      by_cases e2 : op = 2
      · rw [if_pos e2] at hr
        subst hr
        exact .inl ⟨rfl, by show ((s.put who _).wk who).call = _; rw [put_self]⟩
      · rw [if_neg e2] at hr
        by_cases e3 : op = 3
        · rw [if_pos e3] at hr
          subst hr
          exact .inl ⟨rfl, by show ((s.put who _).wk who).call = _; rw [put_self]⟩
        · rw [if_neg e3] at hr
          by_cases e4 : op = 4
          · rw [if_pos e4] at hr ⊢
            subst hr
            refine .inr ⟨rfl, ?_, ?_, rfl⟩
            · show ((s.put who _).wk who).call ≠ _; rw [put_self]; exact fun h => by cases h
            · have := left_call (n := n) (s := s) (who := who) (x := { s.wk who with call := .look 0 s.ep }) (f := s.pw)
              rw [show leftOf n (s.put who { s.wk who with call := .look 0 s.ep }) who = _ from this]
              show n - 0 + 1 + 1 ≤ n + 2
              omega
          · rw [if_neg e4] at hr
            subst hr
            exact .inl ⟨rfl, by show ((s.put who _).wk who).call = _; rw [put_self]⟩
  | pinS old e =>
    rw [hc] at hr
    dsimp only at hr
    subst hr
    have hl : leftOf n s who = if e = s.ep then 2 else 4 := by unfold leftOf; rw [hc]
    rw [hl]
    refine .inr ⟨rfl, ?_, ?_, rfl⟩
    · show ((s.put who _).wk who).call ≠ _; rw [put_self]; exact fun h => by cases h
    · have := left_call (n := n) (s := s) (who := who) (x := { s.wk who with call := .pinL e }) (f := if s.pw who = old then updG s.pw who (e + 1) else s.pw)
      rw [this]
      show (if e = s.ep then 1 else 3) + 1 ≤ _
      split <;> omega
  | pinL e =>
    rw [hc] at hr
    dsimp only at hr
    have hl : leftOf n s who = if e = s.ep then 1 else 3 := by unfold leftOf; rw [hc]
    rw [hl]
    by_cases he : s.ep = e
    · rw [if_pos he] at hr
      subst hr
      exact .inl ⟨rfl, by show ((s.put who _).wk who).call = _; rw [put_self]⟩
    · rw [if_neg he] at hr
      subst hr
      rw [if_neg (fun h => he h.symm)]
      refine .inr ⟨rfl, ?_, ?_, rfl⟩
      · show ((s.put who _).wk who).call ≠ _; rw [put_self]; exact fun h => by cases h
      · have := left_call (n := n) (s := s) (who := who) (x := { s.wk who with call := .pinS (e + 1) s.ep }) (f := s.pw)
        rw [show leftOf n (s.put who { s.wk who with call := .pinS (e + 1) s.ep }) who = _ from this]
        show (if s.ep = s.ep then 2 else 4) + 1 ≤ 3
        rw [if_pos rfl]
        exact Nat.le_refl _
  | look i e =>
    rw [hc] at hC hr
    dsimp only at hr
    have hl : leftOf n s who = n - i + 1 := by unfold leftOf; rw [hc]
    rw [hl]
    by_cases hi : i = n
    · rw [if_pos hi] at hr
      by_cases he : s.ep = e
      · rw [if_pos he] at hr
        subst hr
        exact .inl ⟨rfl, by show ((s.put who _).wk who).call = _; rw [put_self]⟩
      · rw [if_neg he] at hr
        subst hr
        exact .inl ⟨rfl, by show ((s.put who _).wk who).call = _; rw [put_self]⟩
    · rw [if_neg hi] at hr
      by_cases hb : s.pw i ≠ 0 ∧ s.pw i ≠ e + 1
      · rw [if_pos hb] at hr
        subst hr
        exact .inl ⟨rfl, by show ((s.put who _).wk who).call = _; rw [put_self]⟩
      · rw [if_neg hb] at hr
        subst hr
        refine .inr ⟨rfl, ?_, ?_, rfl⟩
        · show ((s.put who _).wk who).call ≠ _; rw [put_self]; exact fun h => by cases h
        · have := left_call (n := n) (s := s) (who := who) (x := { s.wk who with call := .look (i + 1) e }) (f := s.pw)
          rw [show leftOf n (s.put who { s.wk who with call := .look (i + 1) e }) who = _ from this]
          have := hC.1
          show n - (i + 1) + 1 + 1 ≤ n - i + 1
          omega
/-- a call that is stepped alone till it returns -/
def eRun (n : Nat) (who : Nat) : Nat → ESt → ESt × ERes
  | 0, s => (s, ⟨false, 0, 0, []⟩)
  | m + 1, s => if (eStep n s who).2.done = true then eStep n s who else eRun n who m (eStep n s who).1
theorem left_pos {n who : Nat} {s : ESt} (hs : (s.wk who).call ≠ .idle) : 1 ≤ leftOf n s who := by
  unfold leftOf
  split
  · next h => exact absurd h hs
  · split
    · omega
    · split <;> omega
  · split <;> omega
  · split <;> omega
  · omega
/-- more fuel does not count -/
theorem run_fuel {n who : Nat} : ∀ (m m' : Nat) (s : ESt), EInv n s → who < n → (s.wk who).call ≠ .idle → leftOf n s who ≤ m → leftOf n s who ≤ m' → eRun n who m s = eRun n who m' s
  | 0, _, s, _, _, hs, h, _ => by have := left_pos (n := n) hs; omega
  | _ + 1, 0, s, _, _, hs, _, h => by have := left_pos (n := n) hs; omega
  | m + 1, m' + 1, s, hI, hw, hs, h, h' => by
    unfold eRun
    rcases left_step hI hw hs with ⟨hd, _⟩ | ⟨hd, hn, hl, _⟩
    · rw [if_pos hd, if_pos hd]
    · rw [if_neg (by rw [hd]; exact Bool.false_ne_true), if_neg (by rw [hd]; exact Bool.false_ne_true)]
      exact run_fuel m m' _ (einv_step hI hw) hw hn (by omega) (by omega)
end Go.Proofs.Ytlgggeeflomelaa
