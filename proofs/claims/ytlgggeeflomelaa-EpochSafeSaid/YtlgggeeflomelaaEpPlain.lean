/- epochs in plain Lean, no program in sight: the calls' places, a step, and what holds from step to step. -/
import Derived.Test.YtlgggeeflomelaaGb
namespace Go.Proofs.Ytlgggeeflomelaa

/-- a worker's call: begun (its number, the thing), ahead of Pin's Swap, ahead of Pin's second Load, ahead of Advance's look at pin i -/
inductive ECall where
  | idle
  | begun (op : Nat) (thing : Int)
  | pinS (old e : Nat)
  | pinL (e : Nat)
  | look (i e : Nat)
structure EWk where
  call : ECall
  pinned : Bool
  held : List (Int × Nat)
structure ESt where
  ep : Nat
  pw : Nat → Nat
  wk : Nat → EWk
structure ERes where
  done : Bool
  err : Nat
  num : Nat
  things : List Int
def updG {α : Type} (f : Nat → α) (i : Nat) (x : α) : Nat → α := fun j => if j = i then x else f j
theorem updG_self {α : Type} (f : Nat → α) (i : Nat) (x : α) : updG f i x i = x := if_pos rfl
theorem updG_other {α : Type} (f : Nat → α) {i j : Nat} (x : α) (h : j ≠ i) : updG f i x j = f j := if_neg h
/-- a thing that is old enough at epoch e -/
def isOld (e : Nat) (t : Int × Nat) : Bool := decide (t.2 + 2 ≤ e)
def oldOf (e : Nat) (l : List (Int × Nat)) : List Int := (l.filter (isOld e)).map (·.1)
def stayOf (e : Nat) (l : List (Int × Nat)) : List (Int × Nat) := l.filter fun t => !isOld e t
def ESt.put (s : ESt) (who : Nat) (w : EWk) : ESt := { s with wk := updG s.wk who w }
/-- a step of a call that is there, of n workers -/
def eStep (n : Nat) (s : ESt) (who : Nat) : ESt × ERes :=
  match (s.wk who).call with
  | .idle => (s, ⟨false, 7, 0, []⟩)
  | .begun op thing =>
    if op = 1 then (s.put who { s.wk who with call := .pinS 0 s.ep }, ⟨false, 0, 0, []⟩)
    else if op = 2 then ({ s.put who ⟨.idle, false, (s.wk who).held⟩ with pw := updG s.pw who 0 }, ⟨true, 0, 0, []⟩)
    else if op = 3 then (s.put who { s.wk who with call := .idle, held := (s.wk who).held ++ [(thing, s.ep)] }, ⟨true, 0, s.ep, []⟩)
    else if op = 4 then (s.put who { s.wk who with call := .look 0 s.ep }, ⟨false, 0, 0, []⟩)
    else (s.put who { s.wk who with call := .idle, held := stayOf s.ep (s.wk who).held }, ⟨true, 0, (oldOf s.ep (s.wk who).held).length, oldOf s.ep (s.wk who).held⟩)
  | .pinS old e => ({ s.put who { s.wk who with call := .pinL e } with pw := if s.pw who = old then updG s.pw who (e + 1) else s.pw }, ⟨false, 0, 0, []⟩)
  | .pinL e =>
    if s.ep = e then (s.put who { s.wk who with call := .idle, pinned := true }, ⟨true, 0, e, []⟩)
    else (s.put who { s.wk who with call := .pinS (e + 1) s.ep }, ⟨false, 0, 0, []⟩)
  | .look i e =>
    if i = n then
      if s.ep = e then ({ s.put who { s.wk who with call := .idle } with ep := e + 1 }, ⟨true, 0, e + 1, []⟩)
      else (s.put who { s.wk who with call := .idle }, ⟨true, 0, 0, []⟩)
    else if s.pw i ≠ 0 ∧ s.pw i ≠ e + 1 then (s.put who { s.wk who with call := .idle }, ⟨true, 9, 0, []⟩)
    else (s.put who { s.wk who with call := .look (i + 1) e }, ⟨false, 0, 0, []⟩)
/-- a worker's word goes with its call -/
def EWord (s : ESt) (w : Nat) : Prop :=
  if (s.wk w).pinned = true then (∃ pe, s.pw w = pe + 1 ∧ pe ≤ s.ep ∧ s.ep ≤ pe + 1)
  else match (s.wk w).call with
    | .pinS old e => s.pw w = old ∧ e ≤ s.ep
    | .pinL e => s.pw w = e + 1 ∧ e ≤ s.ep
    | _ => s.pw w = 0
/-- what a call knows -/
def ECallOk (n : Nat) (s : ESt) (w : Nat) : Prop :=
  match (s.wk w).call with
  | .idle => True
  | .begun op _ => 1 ≤ op ∧ op ≤ 5 ∧ (op = 1 → (s.wk w).pinned = false) ∧ (op = 2 → (s.wk w).pinned = true)
  | .pinS _ _ => (s.wk w).pinned = false
  | .pinL _ => (s.wk w).pinned = false
  | .look i e => i ≤ n ∧ e ≤ s.ep ∧ (s.ep = e → ∀ v, v < i → (s.wk v).pinned = true → s.pw v = e + 1)
def EInv (n : Nat) (s : ESt) : Prop := ∀ w, w < n → EWord s w ∧ ECallOk n s w ∧ ∀ t ∈ (s.wk w).held, t.2 ≤ s.ep
theorem put_self (s : ESt) (who : Nat) (w : EWk) : (s.put who w).wk who = w := updG_self _ _ _
theorem put_other (s : ESt) {who j : Nat} (w : EWk) (h : j ≠ who) : (s.put who w).wk j = s.wk j := updG_other _ _ h
theorem pinned_false {w : EWk} (h : w.pinned = false) : ¬ w.pinned = true := by rw [h]; exact Bool.false_ne_true
theorem eword_pin {s : ESt} {w : Nat} (h : EWord s w) (hp : (s.wk w).pinned = true) : ∃ pe, s.pw w = pe + 1 ∧ pe ≤ s.ep ∧ s.ep ≤ pe + 1 := by
  unfold EWord at h
  rwa [if_pos hp] at h
/-- one worker's record and word are new, the epoch is as it was: the others know what they knew -/
theorem einv_gen {n : Nat} {s s' : ESt} {who : Nat} (h : EInv n s) (e1 : s'.ep = s.ep) (e2 : ∀ j, j ≠ who → s'.wk j = s.wk j) (e3 : ∀ j, j ≠ who → s'.pw j = s.pw j)
    (hp : (s'.wk who).pinned = true → ((s.wk who).pinned = true ∧ s'.pw who = s.pw who) ∨ s'.pw who = s.ep + 1)
    (h1 : EWord s' who) (h2 : ECallOk n s' who) (h3 : ∀ t ∈ (s'.wk who).held, t.2 ≤ s.ep) : EInv n s' := by
  intro w hw
  by_cases e : w = who
  · subst e
    exact ⟨h1, h2, by rw [e1]; exact h3⟩
  · obtain ⟨g1, g2, g3⟩ := h w hw
    refine ⟨?_, ?_, by rw [e2 w e, e1]; exact g3⟩
    · unfold EWord at g1 ⊢
      rw [e2 w e, e3 w e, e1]
      exact g1
    · unfold ECallOk at g2 ⊢
      rw [e2 w e, e1]
      cases hc : (s.wk w).call with
      | look i e' =>
        rw [hc] at g2
        refine ⟨g2.1, g2.2.1, fun he v hv hpv => ?_⟩
        by_cases ev : v = who
        · subst ev
          rcases hp hpv with ⟨a, b⟩ | a
          · rw [b]; exact g2.2.2 he v hv a
          · rw [a, he]
        · rw [e2 v ev] at hpv
          rw [e3 v ev]
          exact g2.2.2 he v hv hpv
      | _ => rw [hc] at g2; exact g2
/-- all pins were looked at, and the epoch goes on -/
theorem einv_on {n : Nat} {s : ESt} {who e : Nat} (h : EInv n s) (hw : who < n) (hc : (s.wk who).call = .look n e) (he : s.ep = e) :
    EInv n { s.put who { s.wk who with call := .idle } with ep := e + 1 } := by
  have hL := (h who hw).2.1
  unfold ECallOk at hL
  rw [hc] at hL
  have hall : ∀ v, v < n → (s.wk v).pinned = true → s.pw v = e + 1 := hL.2.2 he
  intro w hwn
  obtain ⟨g1, g2, g3⟩ := h w hwn
  by_cases ew : w = who
  · subst ew
    refine ⟨?_, ?_, fun t ht => ?_⟩
    · unfold EWord at g1 ⊢
      show (if ((s.put w { s.wk w with call := .idle }).wk w).pinned = true then _ else _)
      rw [put_self]
      by_cases hp : (s.wk w).pinned = true
      · rw [if_pos hp] at g1
        rw [if_pos hp]
        exact ⟨e, hall w hwn hp, Nat.le_succ e, Nat.le_refl _⟩
      · rw [if_neg hp, hc] at g1
        rw [if_neg hp]
        exact g1
    · unfold ECallOk
      show (match ((s.put w { s.wk w with call := .idle }).wk w).call with | .idle => True | .begun op _ => _ | .pinS _ _ => _ | .pinL _ => _ | .look i e => _)
      rw [put_self]
      trivial
    · have ht2 : t ∈ ((s.put w { s.wk w with call := .idle }).wk w).held := ht
      rw [put_self] at ht2
      have := g3 t ht2
      show t.2 ≤ e + 1
      omega
  · have hk : (s.put who { s.wk who with call := .idle }).wk w = s.wk w := put_other s _ ew
    refine ⟨?_, ?_, fun t ht => ?_⟩
    · unfold EWord at g1 ⊢
      show (if ((s.put who { s.wk who with call := .idle }).wk w).pinned = true then _ else match ((s.put who { s.wk who with call := .idle }).wk w).call with | .pinS old e => _ | .pinL e => _ | _ => _)
      rw [hk]
      by_cases hp : (s.wk w).pinned = true
      · rw [if_pos hp]
        exact ⟨e, hall w hwn hp, Nat.le_succ e, Nat.le_refl _⟩
      · rw [if_neg hp] at g1
        rw [if_neg hp]
        cases hcw : (s.wk w).call with
        | pinS old e' => rw [hcw] at g1; exact ⟨g1.1, show e' ≤ e + 1 by have := g1.2; omega⟩
        | pinL e' => rw [hcw] at g1; exact ⟨g1.1, show e' ≤ e + 1 by have := g1.2; omega⟩
        | _ => rw [hcw] at g1; exact g1
    · unfold ECallOk at g2 ⊢
      have hk2 : ({ s.put who { s.wk who with call := .idle } with ep := e + 1 } : ESt).wk w = s.wk w := hk
      rw [hk2]
      cases hcw : (s.wk w).call with
      | look i e' =>
        rw [hcw] at g2
        refine ⟨g2.1, show e' ≤ e + 1 by have := g2.2.1; omega, fun hx => ?_⟩
        have hx2 : e + 1 = e' := hx
        have := g2.2.1
        omega
      | _ => rw [hcw] at g2; exact g2
    · have ht2 : t ∈ ((s.put who { s.wk who with call := .idle }).wk w).held := ht
      rw [hk] at ht2
      have := g3 t ht2
      show t.2 ≤ e + 1
      omega
def EWordX (ep pw : Nat) (x : EWk) : Prop :=
  if x.pinned = true then (∃ pe, pw = pe + 1 ∧ pe ≤ ep ∧ ep ≤ pe + 1)
  else match x.call with
    | .pinS old e => pw = old ∧ e ≤ ep
    | .pinL e => pw = e + 1 ∧ e ≤ ep
    | _ => pw = 0
def ECallX (n : Nat) (s : ESt) (x : EWk) : Prop :=
  match x.call with
  | .idle => True
  | .begun op _ => 1 ≤ op ∧ op ≤ 5 ∧ (op = 1 → x.pinned = false) ∧ (op = 2 → x.pinned = true)
  | .pinS _ _ => x.pinned = false
  | .pinL _ => x.pinned = false
  | .look i e => i ≤ n ∧ e ≤ s.ep ∧ (s.ep = e → ∀ v, v < i → (s.wk v).pinned = true → s.pw v = e + 1)
/-- a new record of a worker and a new word -/
theorem einv_set {n : Nat} {s : ESt} {who pv : Nat} {x : EWk} {f : Nat → Nat} (h : EInv n s) (hf : ∀ j, j ≠ who → f j = s.pw j) (hv : f who = pv)
    (hp : x.pinned = true → ((s.wk who).pinned = true ∧ pv = s.pw who) ∨ pv = s.ep + 1) (h1 : EWordX s.ep pv x) (h2 : ECallX n { s.put who x with pw := f } x) (h3 : ∀ t ∈ x.held, t.2 ≤ s.ep) : EInv n { s.put who x with pw := f } := by
  have hk : ({ s.put who x with pw := f } : ESt).wk who = x := put_self s who x
  refine einv_gen h rfl (fun j hj => put_other s x hj) hf (fun e => ?_) ?_ ?_ ?_
  · rw [hk] at e
    rcases hp e with ⟨a, b⟩ | a
    · exact .inl ⟨a, by show f who = _; rw [hv]; exact b⟩
    · exact .inr (by show f who = _; rw [hv]; exact a)
  · show EWordX s.ep (f who) (({ s.put who x with pw := f } : ESt).wk who)
    rw [hk, hv]
    exact h1
  · show ECallX n { s.put who x with pw := f } (({ s.put who x with pw := f } : ESt).wk who)
    rw [hk]
    exact h2
  · rw [hk]
    exact h3
theorem einv_rec {n : Nat} {s : ESt} {who : Nat} {x : EWk} (h : EInv n s) (hp : x.pinned = true → (s.wk who).pinned = true ∨ s.pw who = s.ep + 1) (h1 : EWordX s.ep (s.pw who) x) (h2 : ECallX n (s.put who x) x) (h3 : ∀ t ∈ x.held, t.2 ≤ s.ep) : EInv n (s.put who x) :=
  einv_set (f := s.pw) h (fun _ _ => rfl) rfl (fun e => (hp e).elim (fun a => .inl ⟨a, rfl⟩) .inr) h1 h2 h3
/-- what it knew of the word, told of a call that does not ask for more -/
theorem eword_same {ep pw : Nat} {x : EWk} (h : EWordX ep pw x) (y : EWk) (hy : y.pinned = x.pinned) (hc : y.pinned = false → EWordX ep pw ⟨y.call, false, []⟩) : EWordX ep pw y := by
  cases hp : y.pinned with
  | true =>
    unfold EWordX at h ⊢
    rw [if_pos hp]
    rwa [if_pos (by rw [← hy]; exact hp)] at h
  | false =>
    have h2 := hc hp
    unfold EWordX at h2 ⊢
    rw [if_neg (pinned_false hp)]
    exact h2
theorem stay_le {e b : Nat} {l : List (Int × Nat)} (h : ∀ t ∈ l, t.2 ≤ b) : ∀ t ∈ stayOf e l, t.2 ≤ b := fun t ht => h t (List.mem_filter.1 ht).1
theorem einv_step {n who : Nat} {s : ESt} (h : EInv n s) (hw : who < n) : EInv n (eStep n s who).1 := by
  obtain ⟨g1, g2, g3⟩ := h who hw
  have g1' : EWordX s.ep (s.pw who) (s.wk who) := g1
  have g2' : ECallX n s (s.wk who) := g2
  clear g1 g2
  unfold eStep
  unfold ECallX at g2'
  cases hc : (s.wk who).call with
  | idle => exact h
  | begun op thing =>
    rw [hc] at g2'
    obtain ⟨o1, o5, op1, op2⟩ := g2'
    have gp : (s.wk who).pinned = false → s.pw who = 0 := fun e => by
      unfold EWordX at g1'
      rw [if_neg (pinned_false e), hc] at g1'
      exact g1'
    show EInv n (if op = 1 then _ else if op = 2 then _ else if op = 3 then _ else if op = 4 then _ else _ : ESt × ERes).1
    by_cases e1 : op = 1
    · rw [if_pos e1]
      have hnp := op1 e1
      refine einv_rec h (fun e => .inl e) ?_ hnp g3
      unfold EWordX
      rw [if_neg (pinned_false hnp)]
      exact ⟨gp hnp, Nat.le_refl _⟩
    · rw [if_neg e1]
      by_cases e2 : op = 2
      · rw [if_pos e2]
        exact einv_set (pv := 0) h (fun j hj => updG_other _ _ hj) (updG_self _ _ _) (fun e => by cases e) rfl trivial g3
      · rw [if_neg e2]
        by_cases e3 : op = 3
        · rw [if_pos e3]
          refine einv_rec h (fun e => .inl e) (eword_same g1' _ rfl fun e => gp e) trivial (fun t ht => ?_)
          rcases List.mem_append.1 ht with ht | ht
          · exact g3 t ht
          · rw [List.mem_singleton.1 ht]; exact Nat.le_refl _
        · rw [if_neg e3]
          by_cases e4 : op = 4
          · rw [if_pos e4]
            exact einv_rec h (fun e => .inl e) (eword_same g1' _ rfl fun e => gp e) ⟨Nat.zero_le _, Nat.le_refl _, fun _ v hv => absurd hv (Nat.not_lt_zero v)⟩ g3
          · rw [if_neg e4]
            exact einv_rec h (fun e => .inl e) (eword_same g1' _ rfl fun e => gp e) trivial (stay_le g3)
  | pinS old e =>
    rw [hc] at g2'
    have hnp : (s.wk who).pinned = false := g2'
    unfold EWordX at g1'
    rw [if_neg (pinned_false hnp), hc] at g1'
    obtain ⟨a1, a2⟩ := g1'
    show EInv n { s.put who { s.wk who with call := .pinL e } with pw := if s.pw who = old then updG s.pw who (e + 1) else s.pw }
    rw [if_pos a1]
    refine einv_set (pv := e + 1) h (fun j hj => updG_other _ _ hj) (updG_self _ _ _) (fun x => absurd x (pinned_false hnp)) ?_ hnp g3
    unfold EWordX
    rw [if_neg (pinned_false hnp)]
    exact ⟨rfl, a2⟩
  | pinL e =>
    rw [hc] at g2'
    have hnp : (s.wk who).pinned = false := g2'
    unfold EWordX at g1'
    rw [if_neg (pinned_false hnp), hc] at g1'
    obtain ⟨a1, a2⟩ := g1'
    show EInv n (if s.ep = e then _ else _ : ESt × ERes).1
    by_cases he : s.ep = e
    · rw [if_pos he]
      exact einv_rec h (fun _ => .inr (by rw [a1, he])) ⟨e, a1, a2, by omega⟩ trivial g3
    · rw [if_neg he]
      refine einv_rec h (fun x => absurd x (pinned_false hnp)) ?_ hnp g3
      unfold EWordX
      rw [if_neg (pinned_false hnp)]
      exact ⟨a1, Nat.le_refl _⟩
  | look i e =>
    rw [hc] at g2'
    obtain ⟨b1, b2, b3⟩ := g2'
    have gp : (s.wk who).pinned = false → s.pw who = 0 := fun x => by
      unfold EWordX at g1'
      rw [if_neg (pinned_false x), hc] at g1'
      exact g1'
    show EInv n (if i = n then _ else if s.pw i ≠ 0 ∧ s.pw i ≠ e + 1 then _ else _ : ESt × ERes).1
    by_cases hi : i = n
    · subst hi
      rw [if_pos rfl]
      by_cases he : s.ep = e
      · rw [if_pos he]
        exact einv_on h hw hc he
      · rw [if_neg he]
        exact einv_rec h (fun e => .inl e) (eword_same g1' _ rfl fun e => gp e) trivial g3
    · rw [if_neg hi]
      by_cases hb : s.pw i ≠ 0 ∧ s.pw i ≠ e + 1
      · rw [if_pos hb]
        exact einv_rec h (fun e => .inl e) (eword_same g1' _ rfl fun e => gp e) trivial g3
      · rw [if_neg hb]
        refine einv_rec h (fun e => .inl e) (eword_same g1' _ rfl fun e => gp e) ⟨by omega, b2, fun he v hv hpv => ?_⟩ g3
        have hps : (s.wk v).pinned = true := by
          by_cases ev : v = who
          · subst ev
            have hpv2 : ((s.put v { s.wk v with call := .look (i + 1) e }).wk v).pinned = true := hpv
            rw [put_self] at hpv2
            exact hpv2
          · have hpv2 : ((s.put who { s.wk who with call := .look (i + 1) e }).wk v).pinned = true := hpv
            rw [put_other s _ ev] at hpv2
            exact hpv2
        show s.pw v = e + 1
        by_cases ev : v = i
        · subst ev
          obtain ⟨pe, q1, _⟩ := eword_pin (h v (by omega)).1 hps
          omega
        · exact b3 he v (by omega) hps
theorem einv_new (n : Nat) : EInv n ⟨0, fun _ => 0, fun _ => ⟨.idle, false, []⟩⟩ := fun _ _ => ⟨rfl, trivial, fun _ h => by cases h⟩
/-- a call begins -/
theorem einv_start {n who op : Nat} {thing : Int} {s : ESt} (h : EInv n s) (hw : who < n) (hc : (s.wk who).call = .idle) (h1 : 1 ≤ op) (h5 : op ≤ 5) (hp : op = 1 → (s.wk who).pinned = false) (hu : op = 2 → (s.wk who).pinned = true) :
    EInv n (s.put who { s.wk who with call := .begun op thing }) := by
  obtain ⟨g1, _, g3⟩ := h who hw
  have g1' : EWordX s.ep (s.pw who) (s.wk who) := g1
  refine einv_rec h (fun e => .inl e) (eword_same g1' _ rfl fun e => ?_) ⟨h1, h5, hp, hu⟩ g3
  have hnp : (s.wk who).pinned = false := e
  unfold EWordX at g1'
  rw [if_neg (pinned_false hnp), hc] at g1'
  exact g1'
/-- a step makes the epoch one more, or leaves it -/
theorem estep_ep (n who : Nat) (s : ESt) : (eStep n s who).1.ep = s.ep ∨ (eStep n s who).1.ep = s.ep + 1 := by
  unfold eStep
  split
  · exact .inl rfl
  · repeat' split
    all_goals exact .inl rfl
  · exact .inl rfl
  · split
    all_goals exact .inl rfl
  · split
    · split
      · next he => exact .inr (by rw [he])
      · exact .inl rfl
    · split
      all_goals exact .inl rfl
end Go.Proofs.Ytlgggeeflomelaa
