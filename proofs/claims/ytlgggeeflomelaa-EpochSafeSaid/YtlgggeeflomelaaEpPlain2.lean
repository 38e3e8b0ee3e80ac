/- epochs in plain Lean: what is old is a head of the list; the document's worker beside ours. -/
import Derived.Test.YtlgggeeflomelaaEpPlain
namespace Go.Proofs.Ytlgggeeflomelaa

def Sorted (l : List (Int × Nat)) : Prop := l.Pairwise fun a b => a.2 ≤ b.2
theorem old_none {e : Nat} {l : List (Int × Nat)} (h : ∀ t ∈ l, isOld e t = false) : l.filter (isOld e) = [] ∧ stayOf e l = l := by
  constructor
  · rw [List.filter_eq_nil_iff]
    intro t ht
    rw [h t ht]
    exact Bool.false_ne_true
  · unfold stayOf
    rw [List.filter_eq_self]
    intro t ht
    rw [h t ht]
    rfl
theorem split_old {e : Nat} : ∀ {l : List (Int × Nat)}, Sorted l → l.filter (isOld e) ++ stayOf e l = l
  | [], _ => rfl
  | a :: l, h => by
    have h2 := List.pairwise_cons.1 h
    cases ha : isOld e a with
    | true =>
      have ih := split_old (e := e) h2.2
      unfold stayOf at ih ⊢
      rw [List.filter_cons_of_pos ha, List.filter_cons_of_neg (by rw [ha]; exact Bool.false_ne_true), List.cons_append, ih]
    | false =>
      have hn : ∀ t ∈ a :: l, isOld e t = false := fun t ht => by
        rcases List.mem_cons.1 ht with rfl | ht
        · exact ha
        · have h3 := h2.1 t ht
          have h4 : ¬ a.2 + 2 ≤ e := of_decide_eq_false ha
          exact decide_eq_false (by omega)
      rw [(old_none hn).1, (old_none hn).2]
      rfl
theorem sorted_stay {e : Nat} {l : List (Int × Nat)} (h : Sorted l) : Sorted (stayOf e l) := List.Pairwise.filter _ h
theorem sorted_snoc {l : List (Int × Nat)} {t : Int × Nat} (h : Sorted l) (hb : ∀ x ∈ l, x.2 ≤ t.2) : Sorted (l ++ [t]) := by
  unfold Sorted
  rw [List.pairwise_append]
  exact ⟨h, List.pairwise_singleton _ _, fun a ha b hb2 => by rw [List.mem_singleton.1 hb2]; exact hb a ha⟩

/-- the document's worker, and its whole -/
structure DWk where
  op : Nat
  place : Nat
  e : Nat
  thing : Int
  pinned : Bool
  held : List (Int × Nat)
  p : Nat
structure DSt where
  ep : Nat
  wk : Nat → DWk
def DSt.put (s : DSt) (who : Nat) (w : DWk) : DSt := { s with wk := updG s.wk who w }
/-- the document's step -/
def dStep (n : Nat) (s : DSt) (who : Nat) : DSt × ERes :=
  let w := s.wk who
  if w.op = 1 then
    if (w.place + 1) % 2 = 0 then (s.put who { w with place := w.place + 1, p := w.e + 1 }, ⟨false, 0, 0, []⟩)
    else if 1 < w.place + 1 ∧ s.ep = w.e then (s.put who { w with place := w.place + 1, pinned := true, op := 0 }, ⟨true, 0, w.e, []⟩)
    else (s.put who { w with place := w.place + 1, e := s.ep }, ⟨false, 0, 0, []⟩)
  else if w.op = 2 then (s.put who { w with p := 0, pinned := false, op := 0 }, ⟨true, 0, 0, []⟩)
  else if w.op = 3 then (s.put who { w with held := w.held ++ [(w.thing, s.ep)], op := 0 }, ⟨true, 0, s.ep, []⟩)
  else if w.op = 4 then
    if w.place = 0 then (s.put who { w with place := 1, e := s.ep }, ⟨false, 0, 0, []⟩)
    else if w.place - 1 < n then
      if (s.wk (w.place - 1)).p ≠ 0 ∧ (s.wk (w.place - 1)).p ≠ w.e + 1 then (s.put who { w with place := w.place + 1, op := 0 }, ⟨true, 9, 0, []⟩)
      else (s.put who { w with place := w.place + 1 }, ⟨false, 0, 0, []⟩)
    else if s.ep ≠ w.e then (s.put who { w with place := w.place + 1, op := 0 }, ⟨true, 0, 0, []⟩)
    else ({ s.put who { w with place := w.place + 1, op := 0 } with ep := s.ep + 1 }, ⟨true, 0, s.ep + 1, []⟩)
  else if w.op = 5 then (s.put who { w with held := stayOf s.ep w.held, op := 0 }, ⟨true, 0, (oldOf s.ep w.held).length, oldOf s.ep w.held⟩)
  else (s, ⟨false, 7, 0, []⟩)
/-- a call, and the document's place -/
def RelC (c : ECall) (w : DWk) : Prop :=
  match c with
  | .idle => w.op = 0
  | .begun op thing => w.op = op ∧ w.place = 0 ∧ w.thing = thing
  | .pinS _ e => w.op = 1 ∧ w.place % 2 = 1 ∧ w.e = e
  | .pinL e => w.op = 1 ∧ w.place % 2 = 0 ∧ 0 < w.place ∧ w.e = e
  | .look i e => w.op = 4 ∧ w.place = i + 1 ∧ w.e = e
def RelW (x : EWk) (pw : Nat) (w : DWk) : Prop := pw = w.p ∧ x.pinned = w.pinned ∧ x.held = w.held ∧ RelC x.call w
def RelE (s : ESt) (d : DSt) : Prop := s.ep = d.ep ∧ ∀ w, RelW (s.wk w) (s.pw w) (d.wk w)
theorem rel_set {s : ESt} {d : DSt} {who pv : Nat} {x : EWk} {y : DWk} {f : Nat → Nat} (h : RelE s d) (hf : ∀ j, j ≠ who → f j = s.pw j) (hv : f who = pv) (hr : RelW x pv y) (e e' : Nat) (he : e = e') :
    RelE { s.put who x with pw := f, ep := e } { d.put who y with ep := e' } := by
  refine ⟨he, fun w => ?_⟩
  show RelW ((s.put who x).wk w) (f w) ((d.put who y).wk w)
  by_cases ew : w = who
  · subst ew
    rw [put_self, hv, show (d.put w y).wk w = y from updG_self _ _ _]
    exact hr
  · rw [put_other s x ew, hf w ew, show (d.put who y).wk w = d.wk w from updG_other _ _ ew]
    exact h.2 w
theorem rel_rec {s : ESt} {d : DSt} {who : Nat} {x : EWk} {y : DWk} (h : RelE s d) (hr : RelW x (s.pw who) y) : RelE (s.put who x) (d.put who y) :=
  rel_set (f := s.pw) h (fun _ _ => rfl) rfl hr s.ep d.ep h.1
/-- a step of ours is a step of the document's, and answers alike -/
theorem rel_step {n who : Nat} {s : ESt} {d : DSt} (h : RelE s d) (hI : EInv n s) (hw : who < n) (hb : (s.wk who).call ≠ .idle) : RelE (eStep n s who).1 (dStep n d who).1 ∧ (eStep n s who).2 = (dStep n d who).2 := by
  obtain ⟨g1, g2, _⟩ := hI who hw
  have g1' : EWordX s.ep (s.pw who) (s.wk who) := g1
  have g2' : ECallX n s (s.wk who) := g2
  clear g1 g2
  obtain ⟨r1, r2, r3, r4⟩ := h.2 who
  have he := h.1
  unfold ECallX at g2'
  unfold eStep dStep
  cases hc : (s.wk who).call with
  | idle => exact absurd hc hb
  | begun op thing =>
    rw [hc] at g2' r4
    obtain ⟨o1, o5, op1, op2⟩ := g2'
    obtain ⟨k1, k2, k3⟩ := r4
    rcases (by omega : op = 1 ∨ op = 2 ∨ op = 3 ∨ op = 4 ∨ op = 5) with rfl | rfl | rfl | rfl | rfl
    · simp only [k1, k2]
      rw [if_pos trivial, if_pos trivial, if_neg (by decide), if_neg (by omega)]
      refine ⟨rel_rec h ?_, rfl⟩
      exact ⟨r1, r2, r3, rfl, rfl, he.symm⟩
    · simp only [k1]
      rw [if_neg (by decide), if_pos trivial, if_neg (by decide), if_pos trivial]
      refine ⟨rel_set h (fun j hj => updG_other _ _ hj) (updG_self _ _ _) ?_ _ _ he, rfl⟩
      exact ⟨rfl, rfl, r3, rfl⟩
    · simp only [k1, k3]
      rw [if_neg (by decide), if_neg (by decide), if_pos trivial, if_neg (by decide), if_neg (by decide), if_pos trivial]
      refine ⟨rel_rec h ?_, by rw [he]⟩
      exact ⟨r1, r2, by show _ ++ _ = _ ++ _; rw [r3, he], rfl⟩
    · simp only [k1, k2]
      rw [if_neg (by decide), if_neg (by decide), if_neg (by decide), if_pos trivial, if_neg (by decide), if_neg (by decide), if_neg (by decide), if_pos trivial, if_pos trivial]
      refine ⟨rel_rec h ?_, rfl⟩
      exact ⟨r1, r2, r3, rfl, rfl, he.symm⟩
    · simp only [k1]
      rw [if_neg (by decide), if_neg (by decide), if_neg (by decide), if_neg (by decide), if_neg (by decide), if_neg (by decide), if_neg (by decide), if_neg (by decide), if_pos trivial]
      refine ⟨rel_rec h ?_, by rw [r3, he]⟩
      exact ⟨r1, r2, by show stayOf _ _ = stayOf _ _; rw [r3, he], rfl⟩
  | pinS old e =>
    rw [hc] at g2' r4
    have hnp : (s.wk who).pinned = false := g2'
    unfold EWordX at g1'
    rw [if_neg (pinned_false hnp), hc] at g1'
    obtain ⟨a1, a2⟩ := g1'
    obtain ⟨k1, k2, k3⟩ := r4
    simp only [k1, k3]
    rw [if_pos a1, if_pos trivial, if_pos (by omega)]
    refine ⟨rel_set h (fun j hj => updG_other _ _ hj) (updG_self _ _ _) ?_ _ _ he, rfl⟩
    exact ⟨rfl, r2, r3, rfl, (by show ((d.wk who).place + 1) % 2 = 0; omega), (by show 0 < (d.wk who).place + 1; omega), rfl⟩
  | pinL e =>
    rw [hc] at r4
    obtain ⟨k1, k2, k4, k3⟩ := r4
    simp only [k1, k3]
    rw [if_pos trivial, if_neg (by omega : ¬ ((d.wk who).place + 1) % 2 = 0)]
    by_cases hq : s.ep = e
    · rw [if_pos hq, if_pos ⟨by omega, he ▸ hq⟩]
      refine ⟨rel_rec h ?_, rfl⟩
      exact ⟨r1, rfl, r3, rfl⟩
    · rw [if_neg hq, if_neg (fun x => hq (he.trans x.2))]
      refine ⟨rel_rec h ?_, rfl⟩
      exact ⟨r1, r2, r3, rfl, (by show ((d.wk who).place + 1) % 2 = 1; omega), he.symm⟩
  | look i e =>
    rw [hc] at g2' r4
    obtain ⟨b1, _, _⟩ := g2'
    obtain ⟨k1, k2, k3⟩ := r4
    simp only [k1, k2, k3]
    rw [if_neg (by decide : ¬ (4 : Nat) = 1), if_neg (by decide : ¬ (4 : Nat) = 2), if_neg (by decide : ¬ (4 : Nat) = 3), if_pos trivial, if_neg (by omega : ¬ i + 1 = 0), Nat.add_sub_cancel]
    by_cases hi : i = n
    · rw [if_pos hi, if_neg (by omega : ¬ i < n)]
      by_cases hq : s.ep = e
      · rw [if_pos hq, if_neg (fun x => x (he ▸ hq))]
        refine ⟨rel_set h (fun _ _ => rfl) rfl ?_ _ _ (by rw [← he, hq]), by rw [← he, hq]⟩
        exact ⟨r1, r2, r3, rfl⟩
      · rw [if_neg hq, if_pos (fun x => hq (he.trans x))]
        refine ⟨rel_rec h ?_, rfl⟩
        exact ⟨r1, r2, r3, rfl⟩
    · rw [if_neg hi, if_pos (by omega : i < n)]
      have hpi := (h.2 i).1
      rw [← hpi]
      by_cases hq : s.pw i ≠ 0 ∧ s.pw i ≠ e + 1
      · rw [if_pos hq, if_pos hq]
        refine ⟨rel_rec h ?_, rfl⟩
        exact ⟨r1, r2, r3, rfl⟩
      · rw [if_neg hq, if_neg hq]
        refine ⟨rel_rec h ?_, rfl⟩
        exact ⟨r1, r2, r3, rfl, rfl, rfl⟩
/-- all lists are sorted by epoch -/
def ESorted (s : ESt) : Prop := ∀ w, Sorted (s.wk w).held
theorem sorted_put {s : ESt} {who : Nat} {x : EWk} (h : ESorted s) (hx : Sorted x.held) : ESorted (s.put who x) := fun w => by
  by_cases e : w = who
  · subst e; rw [put_self]; exact hx
  · rw [put_other s x e]; exact h w
theorem sorted_step {n who : Nat} {s : ESt} (h : ESorted s) (hI : EInv n s) (hw : who < n) : ESorted (eStep n s who).1 := by
  have g3 := (hI who hw).2.2
  unfold eStep
  split
  · exact h
  · split
    · exact sorted_put h (h who)
    · split
      · exact sorted_put h (h who)
      · split
        · exact sorted_put h (sorted_snoc (h who) g3)
        · split
          · exact sorted_put h (h who)
          · exact sorted_put h (sorted_stay (h who))
  · exact sorted_put h (h who)
  · split
    · exact sorted_put h (h who)
    · exact sorted_put h (h who)
  · split
    · split
      · exact sorted_put h (h who)
      · exact sorted_put h (h who)
    · split
      · exact sorted_put h (h who)
      · exact sorted_put h (h who)
end Go.Proofs.Ytlgggeeflomelaa
