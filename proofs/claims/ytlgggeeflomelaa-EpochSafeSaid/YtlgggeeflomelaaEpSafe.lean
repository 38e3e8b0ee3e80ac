/- EpochSafe in plain Lean: what its reader knows of the workers and of the things. -/
import Derived.Test.YtlgggeeflomelaaEpNear
namespace Go.Proofs.Ytlgggeeflomelaa

structure Wt where
  ops : List Nat
  begun : List Nat
  pins : List Nat
  given : List Nat
  taken : List Nat
  time : Nat
/-- a Retire that has begun, of worker b (4: there is none) -/
def BegOk (s : ESt) (t : Wt) (own : List Nat) (b d : Nat) (th : Int) : Prop :=
  d = b ∧ th = ((t.given.length - 1 : Nat) : Int) ∧ 0 < t.given.length ∧ own.getD (t.given.length - 1) 0 = d ∧ t.taken.getD (t.given.length - 1) 0 = 0 ∧ th ∉ (s.wk d).held.map (·.1)
/-- of one worker: its call, its pin -/
def SafeC (s : ESt) (t : Wt) (d : Nat) : Prop :=
  ((s.wk d).call ≠ .idle → t.ops.getD d 0 = opOf (s.wk d).call) ∧
  (t.pins.getD d 0 ≠ 0 → (s.wk d).pinned = true ∧ ∀ w, w < 4 → ∀ x ∈ (s.wk w).held, ∀ m : Nat, x.1 = (m : Int) → t.pins.getD d 0 < t.given.getD m 0 → s.pw d ≤ x.2 + 1)
/-- of one worker: what it holds -/
def SafeH (s : ESt) (t : Wt) (own : List Nat) (b d : Nat) : Prop :=
  ((s.wk d).held.map (·.1)).Nodup ∧
  (∀ x ∈ (s.wk d).held, ∃ m : Nat, x.1 = (m : Int) ∧ m < t.given.length ∧ own.getD m 0 = d ∧ t.taken.getD m 0 = 0) ∧
  (∀ m, m < t.given.length → own.getD m 0 = d → t.taken.getD m 0 = 0 → (m : Int) ∈ (s.wk d).held.map (·.1) ∨ (b = d ∧ m + 1 = t.given.length))
def SafeL (t : Wt) (own : List Nat) : Prop :=
  t.ops.length = 4 ∧ t.begun.length = 4 ∧ t.pins.length = 4 ∧ t.taken.length = t.given.length ∧ own.length = t.given.length ∧ ∀ m, m < t.given.length → t.given.getD m 0 ≤ t.time ∧ own.getD m 0 < 4
/-- what the reader knows; b: the worker whose Retire has begun, or 4 -/
def SafeR (s : ESt) (t : Wt) (own : List Nat) (b : Nat) : Prop :=
  SafeL t own ∧ (∀ d, d < 4 → SafeC s t d ∧ SafeH s t own b d) ∧
  (∀ d, d < 4 → ∀ op th, (s.wk d).call = .begun op th → t.begun.getD d 0 = 0 ∧ (op = 3 → BegOk s t own b d th)) ∧ (b = 4 ∨ (b < 4 ∧ ∃ th, (s.wk b).call = .begun 3 th))
/-- the first step of a call is told -/
def Wt.begin (t : Wt) (who : Nat) : Wt :=
  if t.begun.getD who 0 = 0 then
    { t with time := t.time + 1, begun := t.begun.set who (t.time + 1), pins := if t.ops.getD who 0 = 2 then t.pins.set who 0 else t.pins, given := if t.ops.getD who 0 = 3 then t.given.set (t.given.length - 1) (t.time + 1) else t.given }
  else { t with time := t.time + 1 }
/-- in the middle of a worker's step -/
def SafeM (s : ESt) (t : Wt) (own : List Nat) (b who : Nat) : Prop :=
  SafeL t own ∧ (∀ d, d < 4 → SafeC s t d ∧ SafeH s t own b d) ∧ (∀ d, d < 4 → d ≠ who → ∀ op th, (s.wk d).call = .begun op th → t.begun.getD d 0 = 0 ∧ op ≠ 3) ∧
  (∀ op th, (s.wk who).call = .begun op th → (op = 2 → t.pins.getD who 0 = 0) ∧ (op = 3 → BegOk s t own b who th ∧ t.given.getD (t.given.length - 1) 0 = t.time)) ∧
  (b = 4 ∨ (b = who ∧ ∃ th, (s.wk who).call = .begun 3 th)) ∧ 0 < t.time
theorem op3 {c : ECall} (h : opOf c = 3) : ∃ th, c = .begun 3 th := by
  cases c with
  | begun op th => exact ⟨th, by rw [show op = 3 from h]⟩
  | idle => cases h
  | pinS a b => cases h
  | pinL a => cases h
  | look a b => cases h
theorem getD_set_i {l : List Nat} {i j x : Nat} : (l.set i x).getD j 0 = if i = j ∧ i < l.length then x else l.getD j 0 := by
  simp only [List.getD_eq_getElem?_getD, List.getElem?_set]
  by_cases h : i = j
  · subst h
    by_cases h2 : i < l.length
    · simp [h2]
    · simp [h2]
  · simp [h]
theorem mid_of_safe {s : ESt} {t : Wt} {own : List Nat} {b who : Nat} (h : SafeR s t own b) (hw : who < 4) (hs : (s.wk who).call ≠ .idle) (hb : b = 4 ∨ b = who) : SafeM s (t.begin who) own b who := by
  obtain ⟨⟨l1, l2, l3, l4, l5, l6⟩, h2, h3, h4⟩ := h
  have hops := (h2 who hw).1.1 hs
  have hb3 : ∀ d, d < 4 → d ≠ who → ∀ op th, (s.wk d).call = .begun op th → t.begun.getD d 0 = 0 ∧ op ≠ 3 := fun d hd hdw op th e => ⟨(h3 d hd op th e).1, fun e3 => by
    have := ((h3 d hd op th e).2 e3).1
    rcases hb with hb | hb
    · omega
    · exact hdw (this.trans hb)⟩
  have hb4 : b = 4 ∨ (b = who ∧ ∃ th, (s.wk who).call = .begun 3 th) := by
    rcases hb with hb | hb
    · exact .inl hb
    · subst hb
      rcases h4 with h4 | ⟨_, h4⟩
      · exact .inl h4
      · exact .inr ⟨rfl, h4⟩
  unfold Wt.begin
  by_cases h0 : t.begun.getD who 0 = 0
  · rw [if_pos h0]
    have hgl : (if t.ops.getD who 0 = 3 then t.given.set (t.given.length - 1) (t.time + 1) else t.given).length = t.given.length := by split <;> simp
    have hgv : ∀ m, (if t.ops.getD who 0 = 3 then t.given.set (t.given.length - 1) (t.time + 1) else t.given).getD m 0 = if t.ops.getD who 0 = 3 ∧ t.given.length - 1 = m ∧ m < t.given.length then t.time + 1 else t.given.getD m 0 := fun m => by
      by_cases h3 : t.ops.getD who 0 = 3
      · rw [if_pos h3, getD_set_i]
        by_cases hm : t.given.length - 1 = m
        · by_cases hl : m < t.given.length
          · rw [if_pos ⟨hm, by omega⟩, if_pos ⟨h3, hm, hl⟩]
          · rw [if_neg (by omega), if_neg (fun e => hl e.2.2)]
        · rw [if_neg (fun e => hm e.1), if_neg (fun e => hm e.2.1)]
      · rw [if_neg h3, if_neg (fun e => h3 e.1)]
    have hpv : ∀ d, (if t.ops.getD who 0 = 2 then t.pins.set who 0 else t.pins).getD d 0 = if t.ops.getD who 0 = 2 ∧ who = d then 0 else t.pins.getD d 0 := fun d => by
      by_cases h2 : t.ops.getD who 0 = 2
      · rw [if_pos h2, getD_set_i]
        by_cases hd : who = d
        · rw [if_pos ⟨hd, by omega⟩, if_pos ⟨h2, hd⟩]
        · rw [if_neg (fun e => hd e.1), if_neg (fun e => hd e.2)]
      · rw [if_neg h2, if_neg (fun e => h2 e.1)]
    refine ⟨⟨l1, by simp [l2], by split <;> simp [l3], by rw [hgl]; exact l4, by rw [hgl]; exact l5, fun m hm => ?_⟩, fun d hd => ⟨⟨(h2 d hd).1.1, fun hp => ?_⟩, ?_⟩, fun d hd hdw op th e => ⟨?_, (hb3 d hd hdw op th e).2⟩, fun op th e => ⟨fun e2 => ?_, fun e3 => ?_⟩, hb4, Nat.succ_pos _⟩
    · dsimp only at hm ⊢
      rw [hgl] at hm
      rw [hgv]
      refine ⟨?_, (l6 m hm).2⟩
      split
      · exact Nat.le_refl _
      · have := (l6 m hm).1; omega
    · dsimp only at hp ⊢
      rw [hpv] at hp ⊢
      have hn : ¬ (t.ops.getD who 0 = 2 ∧ who = d) := fun e => by rw [if_pos e] at hp; exact hp rfl
      rw [if_neg hn] at hp ⊢
      obtain ⟨q1, q2⟩ := (h2 d hd).1.2 hp
      refine ⟨q1, fun w hw4 x hx m hm hlt => q2 w hw4 x hx m hm ?_⟩
      rw [hgv] at hlt
      by_cases hc : t.ops.getD who 0 = 3 ∧ t.given.length - 1 = m ∧ m < t.given.length
      · exfalso
        obtain ⟨th, hth⟩ := op3 (hops.symm.trans hc.1)
        obtain ⟨_, c2, c3, c4, c5, c6⟩ := (h3 who hw 3 th hth).2 rfl
        obtain ⟨m', e1, e2, e3, e4⟩ := (h2 w hw4).2.2.1 x hx
        have : m' = m := by omega
        subst this
        rw [hc.2.1] at c4
        have hww : w = who := by omega
        subst hww
        exact c6 (List.mem_map.2 ⟨x, hx, by rw [hm, c2, hc.2.1]⟩)
      · rwa [if_neg hc] at hlt
    · obtain ⟨g1, g2, g3⟩ := (h2 d hd).2
      refine ⟨g1, fun x hx => ?_, fun m hm => ?_⟩
      · obtain ⟨m, e1, e2, e3⟩ := g2 x hx
        exact ⟨m, e1, by dsimp only; rw [hgl]; exact e2, e3⟩
      · dsimp only at hm ⊢
        rw [hgl] at hm ⊢
        exact g3 m hm
    · dsimp only
      rw [getD_set_ne' hdw]
      exact (hb3 d hd hdw op th e).1
    · dsimp only
      rw [hpv, if_pos ⟨by rw [hops, e]; exact e2, rfl⟩]
    · have ho3 : t.ops.getD who 0 = 3 := by rw [hops, e]; exact e3
      obtain ⟨c1, c2, c3, c4, c5, c6⟩ := (h3 who hw op th e).2 e3
      refine ⟨⟨c1, ?_, ?_, ?_, ?_, c6⟩, ?_⟩
      all_goals dsimp only; try rw [hgl]
      · exact c2
      · exact c3
      · exact c4
      · exact c5
      · rw [hgv, if_pos ⟨ho3, rfl, by omega⟩]
  · rw [if_neg h0]
    refine ⟨⟨l1, l2, l3, l4, l5, fun m hm => ⟨by have := (l6 m hm).1; dsimp only; omega, (l6 m hm).2⟩⟩, fun d hd => ⟨⟨(h2 d hd).1.1, (h2 d hd).1.2⟩, (h2 d hd).2⟩, hb3, fun op th e => absurd (h3 who hw op th e).1 h0, hb4, Nat.succ_pos _⟩
/-- a step that leaves what is held, and the words of whoever is pinned -/
theorem safe_keep {s s' : ESt} {t : Wt} {own : List Nat} {who : Nat} (h : SafeM s t own 4 who) (hw : who < 4) (h1 : ∀ j, j ≠ who → s'.wk j = s.wk j) (h2 : (s'.wk who).held = (s.wk who).held)
    (h3 : ∀ d, d < 4 → t.pins.getD d 0 ≠ 0 → s'.pw d = s.pw d ∧ ((s.wk d).pinned = true → (s'.wk d).pinned = true)) (h4 : (s'.wk who).call ≠ .idle → t.ops.getD who 0 = opOf (s'.wk who).call) (h5 : ∀ op th, (s'.wk who).call ≠ .begun op th) : SafeR s' t own 4 := by
  obtain ⟨k1, k2, k3, k4, k5, k6⟩ := h
  have hh : ∀ w, (s'.wk w).held = (s.wk w).held := fun w => by
    by_cases e : w = who
    · subst e; exact h2
    · rw [h1 w e]
  refine ⟨k1, fun d hd => ⟨⟨?_, fun hp => ?_⟩, ?_⟩, fun d hd op th e => ?_, .inl rfl⟩
  · by_cases e : d = who
    · subst e; exact h4
    · rw [h1 d e]; exact (k2 d hd).1.1
  · obtain ⟨q1, q2⟩ := (k2 d hd).1.2 hp
    obtain ⟨p1, p2⟩ := h3 d hd hp
    refine ⟨p2 q1, fun w hw4 x hx => ?_⟩
    rw [hh] at hx
    rw [p1]
    exact q2 w hw4 x hx
  · unfold SafeH
    rw [hh]
    exact (k2 d hd).2
  · by_cases ed : d = who
    · subst ed; exact absurd e (h5 op th)
    · rw [h1 d ed] at e
      exact ⟨(k3 d hd ed op th e).1, fun e3 => absurd e3 (k3 d hd ed op th e).2⟩
/-- the things that are taken, one behind the other -/
def takeAll (tk : List Nat) (ths : List Int) : List Nat := ths.foldl (fun tk n => tk.set n.toNat (tk.getD n.toNat 0 + 1)) tk
theorem takeAll_len : ∀ (ths : List Int) (tk : List Nat), (takeAll tk ths).length = tk.length
  | [], _ => rfl
  | n :: ths, tk => by
    show (takeAll (tk.set n.toNat _) ths).length = _
    rw [takeAll_len ths]
    simp
theorem takeAll_snoc (tk : List Nat) (ths : List Int) (n : Int) : takeAll tk (ths ++ [n]) = (takeAll tk ths).set n.toNat ((takeAll tk ths).getD n.toNat 0 + 1) := by
  unfold takeAll
  rw [List.foldl_append]
  rfl
theorem takeAll_not : ∀ (ths : List Int) (tk : List Nat) (m : Nat), (∀ n ∈ ths, n.toNat ≠ m) → (takeAll tk ths).getD m 0 = tk.getD m 0
  | [], _, _, _ => rfl
  | n :: ths, tk, m, h => by
    show (takeAll (tk.set n.toNat _) ths).getD m 0 = _
    rw [takeAll_not ths _ m (fun k hk => h k (List.mem_cons_of_mem _ hk)), getD_set_ne' (fun e => h n (List.mem_cons_self ..) e.symm)]
theorem takeAll_ge : ∀ (ths : List Int) (tk : List Nat) (m : Nat), tk.getD m 0 ≤ (takeAll tk ths).getD m 0
  | [], _, _ => Nat.le_refl _
  | n :: ths, tk, m => by
    show _ ≤ (takeAll (tk.set n.toNat _) ths).getD m 0
    refine Nat.le_trans ?_ (takeAll_ge ths _ m)
    rw [getD_set_i]
    split
    · next h => rw [h.1]; omega
    · exact Nat.le_refl _
theorem takeAll_mem : ∀ (ths : List Int) (tk : List Nat) (m : Nat), m < tk.length → (m : Int) ∈ ths → 0 < (takeAll tk ths).getD m 0
  | [], _, _, _, h => by cases h
  | n :: ths, tk, m, hm, h => by
    show 0 < (takeAll (tk.set n.toNat _) ths).getD m 0
    rcases List.mem_cons.1 h with h | h
    · refine Nat.lt_of_lt_of_le ?_ (takeAll_ge ths _ m)
      have hn : n.toNat = m := by omega
      rw [hn, getD_set_self hm]
      omega
    · exact takeAll_mem ths _ m (by simpa using hm) h
/-- a Pin has returned -/
def Wt.pinned (t : Wt) (who : Nat) : Wt := if t.ops.getD who 0 = 1 then { t with pins := t.pins.set who t.time } else t
/-- a step, told -/
def Wt.fin (t : Wt) (who : Nat) (r : ERes) : Wt := if r.done = true then { t.pinned who with taken := takeAll t.taken r.things } else t
/-- what a collected thing was found to be -/
def ThsOk (t : Wt) (ths : List Int) : Prop := ths.Nodup ∧ ∀ n ∈ ths, ∃ m : Nat, n = (m : Int) ∧ m < t.given.length ∧ t.taken.getD m 0 = 0 ∧ ∀ d, d < 4 → t.pins.getD d 0 = 0 ∨ t.given.getD m 0 ≤ t.pins.getD d 0
theorem fin_id {t : Wt} {who : Nat} {r : ERes} (h : r.things = []) (h1 : r.done = true → t.ops.getD who 0 ≠ 1) : t.fin who r = t := by
  unfold Wt.fin
  split
  · next hd =>
    rw [h]
    unfold Wt.pinned
    rw [if_neg (h1 hd)]
    rfl
  · rfl
theorem old_nodup {e : Nat} {l : List (Int × Nat)} (h : (l.map (·.1)).Nodup) : (oldOf e l).Nodup := h.sublist ((List.filter_sublist (l := l)).map _)
theorem old_mem {e : Nat} {l : List (Int × Nat)} {n : Int} (h : n ∈ oldOf e l) : ∃ x ∈ l, x.1 = n ∧ x.2 + 2 ≤ e := by
  obtain ⟨x, hx, e1⟩ := List.mem_map.1 h
  obtain ⟨h1, h2⟩ := List.mem_filter.1 hx
  exact ⟨x, h1, e1, of_decide_eq_true h2⟩
theorem stay_not {e : Nat} {l : List (Int × Nat)} (h : (l.map (·.1)).Nodup) {x : Int × Nat} (hx : x ∈ stayOf e l) : x ∈ l ∧ x.1 ∉ oldOf e l := by
  obtain ⟨h1, h2⟩ := List.mem_filter.1 hx
  refine ⟨h1, fun h3 => ?_⟩
  obtain ⟨y, hy, e1⟩ := List.mem_map.1 h3
  obtain ⟨h4, h5⟩ := List.mem_filter.1 hy
  have : y = x := by
    have hp := List.pairwise_map.1 h
    rcases List.getElem_of_mem h4 with ⟨i, hi, ei⟩
    rcases List.getElem_of_mem h1 with ⟨j, hj, ej⟩
    have hij : i = j := by
      refine (List.getElem_inj (h₀ := by simpa using hi) (h₁ := by simpa using hj) h).1 ?_
      simp [ei, ej, e1]
    subst hij
    exact ei.symm.trans ej
  subst this
  rw [h5] at h2
  cases h2
theorem stay_or {e : Nat} {l : List (Int × Nat)} {n : Int} (h : n ∈ l.map (·.1)) (h2 : n ∉ oldOf e l) : n ∈ (stayOf e l).map (·.1) := by
  obtain ⟨x, hx, rfl⟩ := List.mem_map.1 h
  refine List.mem_map.2 ⟨x, List.mem_filter.2 ⟨hx, ?_⟩, rfl⟩
  cases ho : isOld e x with
  | false => rfl
  | true => exact absurd (List.mem_map.2 ⟨x, List.mem_filter.2 ⟨hx, ho⟩, rfl⟩) h2
theorem thsOk_nil (t : Wt) : ThsOk t [] := ⟨List.nodup_nil, fun n h => by cases h⟩
theorem safe_step {s : ESt} {t : Wt} {own : List Nat} {b who : Nat} (h : SafeM s t own b who) (hI : EInv 4 s) (hw : who < 4) (hs : (s.wk who).call ≠ .idle) :
    SafeR (eStep 4 s who).1 (t.fin who (eStep 4 s who).2) own 4 ∧ ThsOk t (eStep 4 s who).2.things ∧ ((eStep 4 s who).2.done = false → (eStep 4 s who).2.things = []) ∧ ((eStep 4 s who).2.done = true → t.ops.getD who 0 = 1 → (eStep 4 s who).2.things = []) := by
  have hC : ECallX 4 s (s.wk who) := (hI who hw).2.1
  unfold ECallX at hC
  have hops := (h.2.1 who hw).1.1 hs
  have hnp : (s.wk who).pinned = false → t.pins.getD who 0 = 0 := fun e => by
    rcases Nat.eq_zero_or_pos (t.pins.getD who 0) with h0 | h0
    · exact h0
    · have := ((h.2.1 who hw).1.2 (by omega)).1
      rw [e] at this
      cases this
  have hb4 : ∀ {P : Prop}, (∀ th, (s.wk who).call ≠ .begun 3 th) → (b = 4 → P) → P := fun hn hp => by
    rcases h.2.2.2.2.1 with hb | ⟨_, th, hth⟩
    · exact hp hb
    · exact absurd hth (hn th)
  -- where what is held stays
  have keep : ∀ (c : ECall) (p : Bool) (f : Nat → Nat) (ep : Nat) (r : ERes), (∀ th, (s.wk who).call ≠ .begun 3 th) → ((s.wk who).pinned = true → t.pins.getD who 0 ≠ 0 → p = true) → (∀ j, j < 4 → t.pins.getD j 0 ≠ 0 → f j = s.pw j) → (c ≠ .idle → opOf c = opOf (s.wk who).call) → (∀ op th, c ≠ .begun op th) →
      SafeR ⟨ep, f, updG s.wk who ⟨c, p, (s.wk who).held⟩⟩ t own 4 := fun c p f ep r hn hp hf hc hcb => by
    refine hb4 hn fun hb => ?_
    subst hb
    have e : updG s.wk who ⟨c, p, (s.wk who).held⟩ who = ⟨c, p, (s.wk who).held⟩ := updG_self _ _ _
    refine safe_keep h hw (fun j hj => updG_other _ _ hj) (by show (updG s.wk who _ who).held = _; rw [e]) (fun d hd hpd => ⟨hf d hd hpd, fun hpp => ?_⟩) (fun hx => ?_) (fun op th => ?_)
    · show (updG s.wk who _ d).pinned = true
      by_cases ed : d = who
      · subst ed; rw [e]; exact hp hpp hpd
      · rw [updG_other _ _ ed]; exact hpp
    · have hx' : (updG s.wk who ⟨c, p, (s.wk who).held⟩ who).call ≠ .idle := hx
      show _ = opOf (updG s.wk who _ who).call
      rw [e] at hx' ⊢
      rw [hops]
      exact (hc hx').symm
    · show (updG s.wk who _ who).call ≠ _
      rw [e]
      exact hcb op th
  unfold eStep
  cases hc : (s.wk who).call with
  | idle => exact absurd hc hs
  | begun op th =>
    rw [hc] at hC hops keep
    obtain ⟨o1, o5, op1, op2⟩ := hC
    have hopv : t.ops.getD who 0 = op := hops
    dsimp only
    rcases (by omega : op = 1 ∨ op = 2 ∨ op = 3 ∨ op = 4 ∨ op = 5) with rfl | rfl | rfl | rfl | rfl
    · rw [if_pos rfl]
      refine ⟨?_, thsOk_nil t, fun _ => rfl, fun _ _ => rfl⟩
      rw [fin_id rfl (fun h => by cases h)]
      exact keep (.pinS 0 s.ep) (s.wk who).pinned s.pw s.ep ⟨false, 0, 0, []⟩ (fun th e => by cases e) (fun e _ => e) (fun _ _ _ => rfl) (fun _ => rfl) (fun _ _ e => by cases e)
    · rw [if_neg (by decide), if_pos rfl]
      refine ⟨?_, thsOk_nil t, fun _ => rfl, fun _ _ => rfl⟩
      rw [fin_id rfl (fun _ => by rw [hopv]; decide)]
      have hz := (h.2.2.2.1 2 th hc).1 rfl
      exact keep .idle false (updG s.pw who 0) s.ep ⟨true, 0, 0, []⟩ (fun th e => by cases e) (fun _ e => absurd hz e) (fun j hj hp => updG_other _ _ (fun e => hp (e ▸ hz))) (fun e => absurd rfl e) (fun _ _ e => by cases e)
    · rw [if_neg (by decide), if_neg (by decide), if_pos rfl]
      refine ⟨?_, thsOk_nil t, fun _ => rfl, fun _ _ => rfl⟩
      rw [fin_id rfl (fun _ => by rw [hopv]; decide)]
      obtain ⟨⟨c1, c2, c3, c4, c5, c6⟩, c7⟩ := (h.2.2.2.1 3 th hc).2 rfl
      obtain ⟨k1, k2, k3, k4, k5, k6⟩ := h
      have e : ∀ w, (s.put who { s.wk who with call := .idle, held := (s.wk who).held ++ [(th, s.ep)] }).wk w = if w = who then { s.wk who with call := .idle, held := (s.wk who).held ++ [(th, s.ep)] } else s.wk w := fun w => rfl
      refine ⟨k1, fun d hd => ⟨⟨fun hx => ?_, fun hp => ?_⟩, ?_⟩, fun d hd op' th' e' => ?_, .inl rfl⟩
      · rw [e] at hx ⊢
        by_cases ed : d = who
        · rw [if_pos ed] at hx; exact absurd rfl hx
        · rw [if_neg ed] at hx ⊢; exact (k2 d hd).1.1 hx
      · obtain ⟨q1, q2⟩ := (k2 d hd).1.2 hp
        refine ⟨?_, fun w hw4 x hx m hm hlt => ?_⟩
        · rw [e]
          by_cases ed : d = who
          · rw [if_pos ed]; rw [ed] at q1; exact q1
          · rw [if_neg ed]; exact q1
        · rw [e] at hx
          show s.pw d ≤ x.2 + 1
          by_cases ew : w = who
          · rw [if_pos ew] at hx
            rcases List.mem_append.1 hx with hx | hx
            · exact q2 who hw x hx m hm hlt
            · rw [List.mem_singleton.1 hx]
              obtain ⟨pe, a1, a2, _⟩ := eword_pin (hI d hd).1 q1
              show s.pw d ≤ s.ep + 1
              omega
          · rw [if_neg ew] at hx
            exact q2 w hw4 x hx m hm hlt
      · obtain ⟨g1, g2, g3⟩ := (k2 d hd).2
        unfold SafeH
        rw [e]
        by_cases ed : d = who
        · subst ed
          rw [if_pos rfl]
          refine ⟨?_, fun x hx => ?_, fun m hm ho ht => ?_⟩
          · show (((s.wk d).held ++ [(th, s.ep)]).map (·.1)).Nodup
            rw [List.map_append]
            refine List.nodup_append.2 ⟨g1, by simp, fun a ha b hb => ?_⟩
            simp at hb
            subst hb
            intro e
            exact c6 (e ▸ ha)
          · rcases List.mem_append.1 hx with hx | hx
            · exact g2 x hx
            · rw [List.mem_singleton.1 hx]
              exact ⟨t.given.length - 1, c2, by omega, c4, c5⟩
          · refine .inl ?_
            show (m : Int) ∈ ((s.wk d).held ++ [(th, s.ep)]).map (·.1)
            rw [List.map_append]
            rcases g3 m hm ho ht with h | ⟨_, h⟩
            · exact List.mem_append_left _ h
            · refine List.mem_append_right _ ?_
              simp [c2]
              omega
        · rw [if_neg ed]
          refine ⟨g1, g2, fun m hm ho ht => ?_⟩
          rcases g3 m hm ho ht with h | ⟨h, _⟩
          · exact .inl h
          · exact absurd (h.symm.trans c1.symm) ed
      · rw [e] at e'
        by_cases ed : d = who
        · rw [if_pos ed] at e'; cases e'
        · rw [if_neg ed] at e'
          exact ⟨(k3 d hd ed op' th' e').1, fun e3 => absurd e3 (k3 d hd ed op' th' e').2⟩
    · rw [if_neg (by decide), if_neg (by decide), if_neg (by decide), if_pos rfl]
      refine ⟨?_, thsOk_nil t, fun _ => rfl, fun _ _ => rfl⟩
      rw [fin_id rfl (fun h => by cases h)]
      exact keep (.look 0 s.ep) (s.wk who).pinned s.pw s.ep ⟨false, 0, 0, []⟩ (fun th e => by cases e) (fun e _ => e) (fun _ _ _ => rfl) (fun _ => rfl) (fun _ _ e => by cases e)
    · rw [if_neg (by decide), if_neg (by decide), if_neg (by decide), if_neg (by decide)]
      have hfin : t.fin who ⟨true, 0, (oldOf s.ep (s.wk who).held).length, oldOf s.ep (s.wk who).held⟩ = { t with taken := takeAll t.taken (oldOf s.ep (s.wk who).held) } := by
        unfold Wt.fin Wt.pinned
        rw [if_pos rfl, if_neg (by rw [hopv]; decide)]
      rw [hfin]
      refine hb4 (fun th' e => by rw [hc] at e; cases e) fun hb => ?_
      subst hb
      obtain ⟨k1, k2, k3, k4, k5, k6⟩ := h
      obtain ⟨l1, l2, l3, l4, l5, l6⟩ := k1
      obtain ⟨g1, g2, g3⟩ := (k2 who hw).2
      have hold : ∀ n ∈ oldOf s.ep (s.wk who).held, ∃ m : Nat, n = (m : Int) ∧ m < t.given.length ∧ t.taken.getD m 0 = 0 ∧ own.getD m 0 = who ∧ ∀ d, d < 4 → t.pins.getD d 0 = 0 ∨ t.given.getD m 0 ≤ t.pins.getD d 0 := fun n hn => by
        obtain ⟨x, hx, e1, e2⟩ := old_mem hn
        obtain ⟨m, q1, q2, q3, q4⟩ := g2 x hx
        refine ⟨m, by rw [← e1]; exact q1, q2, q4, q3, fun d hd => ?_⟩
        rcases Nat.eq_zero_or_pos (t.pins.getD d 0) with h0 | h0
        · exact .inl h0
        · refine .inr (Nat.le_of_not_lt fun hlt => ?_)
          obtain ⟨p1, p2⟩ := (k2 d hd).1.2 (by omega)
          have h9 := p2 who hw x hx m q1 hlt
          obtain ⟨pe, a1, a2, a3⟩ := eword_pin (hI d hd).1 p1
          omega
      have hnot : ∀ m : Nat, (m : Int) ∉ oldOf s.ep (s.wk who).held → (takeAll t.taken (oldOf s.ep (s.wk who).held)).getD m 0 = t.taken.getD m 0 := fun m hm => takeAll_not _ _ _ fun n hn e => by
        obtain ⟨m', q1, _⟩ := hold n hn
        refine hm ?_
        have : (m : Int) = n := by omega
        rw [this]; exact hn
      refine ⟨⟨⟨l1, l2, l3, by dsimp only; rw [takeAll_len]; exact l4, l5, l6⟩, fun d hd => ⟨⟨fun hx => ?_, fun hp => ?_⟩, ?_⟩, fun d hd op' th' e' => ?_, .inl rfl⟩, ⟨old_nodup g1, fun n hn => ?_⟩, (fun e => by cases e), (fun _ e => by rw [hopv] at e; cases e)⟩
      · by_cases ed : d = who
        · subst ed
          rw [put_self] at hx
          exact absurd rfl hx
        · rw [put_other s _ ed] at hx ⊢
          exact (k2 d hd).1.1 hx
      · obtain ⟨q1, q2⟩ := (k2 d hd).1.2 hp
        refine ⟨?_, fun w hw4 x hx m hm hlt => ?_⟩
        · by_cases ed : d = who
          · subst ed; rw [put_self]; exact q1
          · rw [put_other s _ ed]; exact q1
        · by_cases ew : w = who
          · subst ew
            rw [put_self] at hx
            exact q2 w hw4 x (List.mem_filter.1 hx).1 m hm hlt
          · rw [put_other s _ ew] at hx
            exact q2 w hw4 x hx m hm hlt
      · unfold SafeH
        by_cases ed : d = who
        · subst ed
          rw [put_self]
          refine ⟨g1.sublist ((List.filter_sublist).map _), fun x hx => ?_, fun m hm ho ht => .inl ?_⟩
          · obtain ⟨q1, q2⟩ := stay_not g1 hx
            obtain ⟨m, p1, p2, p3, p4⟩ := g2 x q1
            refine ⟨m, p1, p2, p3, ?_⟩
            dsimp only
            rw [hnot m (p1 ▸ q2)]
            exact p4
          · dsimp only at ht hm
            have h0 : t.taken.getD m 0 = 0 := by have := takeAll_ge (oldOf s.ep (s.wk d).held) t.taken m; omega
            have hno : (m : Int) ∉ oldOf s.ep (s.wk d).held := fun hmem => by
              have := takeAll_mem _ t.taken m (by omega) hmem
              omega
            rcases g3 m hm ho h0 with h | ⟨h, _⟩
            · exact stay_or h hno
            · omega
        · rw [put_other s _ ed]
          obtain ⟨f1, f2, f3⟩ := (k2 d hd).2
          refine ⟨f1, fun x hx => ?_, fun m hm ho ht => ?_⟩
          · obtain ⟨m, p1, p2, p3, p4⟩ := f2 x hx
            refine ⟨m, p1, p2, p3, ?_⟩
            dsimp only
            rw [hnot m (fun hmem => ?_)]
            · exact p4
            · obtain ⟨m', r1, _, _, r4, _⟩ := hold _ hmem
              have : m = m' := by omega
              subst this
              omega
          · dsimp only at ht hm
            have h0 : t.taken.getD m 0 = 0 := by have := takeAll_ge (oldOf s.ep (s.wk who).held) t.taken m; omega
            exact f3 m hm ho h0
      · by_cases ed : d = who
        · subst ed; rw [put_self] at e'; cases e'
        · rw [put_other s _ ed] at e'
          exact ⟨(k3 d hd ed op' th' e').1, fun e3 => absurd e3 (k3 d hd ed op' th' e').2⟩
      · obtain ⟨m, q1, q2, q3, _, q5⟩ := hold n hn
        exact ⟨m, q1, q2, q3, q5⟩
  | pinS old e =>
    rw [hc] at hC hops keep
    have hp0 := hnp hC
    dsimp only
    refine ⟨?_, thsOk_nil t, fun _ => rfl, fun _ _ => rfl⟩
    rw [fin_id rfl (fun h => by cases h)]
    refine keep (.pinL e) (s.wk who).pinned (if s.pw who = old then updG s.pw who (e + 1) else s.pw) s.ep ⟨false, 0, 0, []⟩ (fun th e => by cases e) (fun e _ => e) (fun j hj hp => ?_) (fun _ => rfl) (fun _ _ e => by cases e)
    split
    · exact updG_other _ _ (fun e => hp (e ▸ hp0))
    · rfl
  | pinL e =>
    rw [hc] at hC hops keep
    have hp0 := hnp hC
    dsimp only
    by_cases he : s.ep = e
    · rw [if_pos he]
      refine ⟨?_, thsOk_nil t, fun _ => rfl, fun _ _ => rfl⟩
      have h9 := keep .idle true s.pw s.ep ⟨true, 0, e, []⟩ (fun th e => by cases e) (fun _ _ => rfl) (fun _ _ _ => rfl) (fun e => absurd rfl e) (fun _ _ e => by cases e)
      have hfin : t.fin who ⟨true, 0, e, []⟩ = { t with pins := t.pins.set who t.time } := by
        unfold Wt.fin Wt.pinned
        rw [if_pos rfl, if_pos (show t.ops.getD who 0 = 1 from hops)]
        rfl
      rw [hfin]
      obtain ⟨k1, k2, k3, k4⟩ := h9
      obtain ⟨l1, l2, l3, l4, l5, l6⟩ := k1
      refine ⟨⟨l1, l2, by simp [l3], l4, l5, l6⟩, fun d hd => ⟨⟨(k2 d hd).1.1, fun hp => ?_⟩, (k2 d hd).2⟩, k3, k4⟩
      by_cases ed : d = who
      · subst ed
        refine ⟨by rw [put_self], fun w hw4 x hx m hm hlt => ?_⟩
        exfalso
        dsimp only at hlt
        rw [getD_set_self (by omega)] at hlt
        obtain ⟨m', p1, p2, _⟩ := (k2 w hw4).2.2.1 x hx
        have : m = m' := by omega
        subst this
        have := (l6 m p2).1
        omega
      · dsimp only at hp ⊢
        rw [getD_set_ne' ed] at hp ⊢
        exact (k2 d hd).1.2 hp
    · rw [if_neg he]
      refine ⟨?_, thsOk_nil t, fun _ => rfl, fun _ _ => rfl⟩
      rw [fin_id rfl (fun h => by cases h)]
      exact keep (.pinS (e + 1) s.ep) (s.wk who).pinned s.pw s.ep ⟨false, 0, 0, []⟩ (fun th e => by cases e) (fun e _ => e) (fun _ _ _ => rfl) (fun _ => rfl) (fun _ _ e => by cases e)
  | look i e =>
    rw [hc] at hC hops keep
    have hopv : t.ops.getD who 0 = 4 := hops
    dsimp only
    have idl : ∀ (ep : Nat) (r : ERes), r.things = [] → SafeR ⟨ep, s.pw, updG s.wk who ⟨.idle, (s.wk who).pinned, (s.wk who).held⟩⟩ (t.fin who r) own 4 := fun ep r hr => by
      rw [fin_id hr (fun _ => by rw [hopv]; decide)]
      exact keep .idle (s.wk who).pinned s.pw ep r (fun th e => by cases e) (fun e _ => e) (fun _ _ _ => rfl) (fun e => absurd rfl e) (fun _ _ e => by cases e)
    by_cases hi : i = 4
    · rw [if_pos hi]
      by_cases he : s.ep = e
      · rw [if_pos he]
        exact ⟨idl (e + 1) _ rfl, thsOk_nil t, fun _ => rfl, fun _ _ => rfl⟩
      · rw [if_neg he]
        exact ⟨idl s.ep _ rfl, thsOk_nil t, fun _ => rfl, fun _ _ => rfl⟩
    · rw [if_neg hi]
      by_cases hb : s.pw i ≠ 0 ∧ s.pw i ≠ e + 1
      · rw [if_pos hb]
        exact ⟨idl s.ep _ rfl, thsOk_nil t, fun _ => rfl, fun _ _ => rfl⟩
      · rw [if_neg hb]
        refine ⟨?_, thsOk_nil t, fun _ => rfl, fun _ _ => rfl⟩
        rw [fin_id rfl (fun h => by cases h)]
        exact keep (.look (i + 1) e) (s.wk who).pinned s.pw s.ep ⟨false, 0, 0, []⟩ (fun th e => by cases e) (fun e _ => e) (fun _ _ _ => rfl) (fun _ => rfl) (fun _ _ e => by cases e)
/-- an idle worker's call begins; no Retire -/
theorem safe_begin {s : ESt} {t : Wt} {own : List Nat} {d op : Nat} {th : Int} (h : SafeR s t own 4) (hd : d < 4) (hop : op ≠ 3) : SafeR (s.put d { s.wk d with call := .begun op th }) { t with ops := t.ops.set d op, begun := t.begun.set d 0 } own 4 := by
  obtain ⟨⟨l1, l2, l3, l4, l5, l6⟩, k2, k3, _⟩ := h
  have hh : ∀ w, ((s.put d { s.wk d with call := .begun op th }).wk w).held = (s.wk w).held ∧ ((s.put d { s.wk d with call := .begun op th }).wk w).pinned = (s.wk w).pinned := fun w => by
    by_cases e : w = d
    · subst e; rw [put_self]; exact ⟨rfl, rfl⟩
    · rw [put_other s _ e]; exact ⟨rfl, rfl⟩
  refine ⟨⟨by simp [l1], by simp [l2], l3, l4, l5, l6⟩, fun j hj => ⟨⟨fun hx => ?_, fun hp => ?_⟩, ?_⟩, fun j hj op' th' e' => ?_, .inl rfl⟩
  · dsimp only
    by_cases e : j = d
    · subst e
      rw [put_self, getD_set_self (by omega)]
      rfl
    · rw [put_other s _ e] at hx ⊢
      rw [getD_set_ne' e]
      exact (k2 j hj).1.1 hx
  · obtain ⟨q1, q2⟩ := (k2 j hj).1.2 hp
    refine ⟨by rw [(hh j).2]; exact q1, fun w hw x hx => ?_⟩
    rw [(hh w).1] at hx
    exact q2 w hw x hx
  · unfold SafeH
    rw [(hh j).1]
    exact (k2 j hj).2
  · dsimp only
    by_cases e : j = d
    · subst e
      rw [put_self] at e'
      injection e' with e1 e2
      exact ⟨getD_set_self (by omega), fun e3 => absurd (e1.trans e3) hop⟩
    · rw [put_other s _ e] at e'
      rw [getD_set_ne' e]
      have := k3 j hj op' th' e'
      exact ⟨this.1, fun e3 => by have := (this.2 e3).1; omega⟩
theorem getD_snoc_lt {l : List Nat} {x i : Nat} (h : i < l.length) : (l ++ [x]).getD i 0 = l.getD i 0 := by
  simp [List.getElem?_append_left h]
theorem getD_snoc_eq {l : List Nat} {x i : Nat} (h : i = l.length) : (l ++ [x]).getD i 0 = x := by
  subst h
  simp
/-- a Retire begins -/
theorem safe_retire {s : ESt} {t : Wt} {own : List Nat} {d : Nat} (h : SafeR s t own 4) (hd : d < 4) : SafeR (s.put d { s.wk d with call := .begun 3 (t.given.length : Int) }) { t with ops := t.ops.set d 3, begun := t.begun.set d 0, given := t.given ++ [0], taken := t.taken ++ [0] } (own ++ [d]) d := by
  obtain ⟨⟨l1, l2, l3, l4, l5, l6⟩, k2, k3, _⟩ := h
  have hh : ∀ w, ((s.put d { s.wk d with call := .begun 3 (t.given.length : Int) }).wk w).held = (s.wk w).held ∧ ((s.put d { s.wk d with call := .begun 3 (t.given.length : Int) }).wk w).pinned = (s.wk w).pinned := fun w => by
    by_cases e : w = d
    · subst e; rw [put_self]; exact ⟨rfl, rfl⟩
    · rw [put_other s _ e]; exact ⟨rfl, rfl⟩
  have hnm : ∀ w, w < 4 → ((t.given.length : Nat) : Int) ∉ (s.wk w).held.map (·.1) := fun w hw hm => by
    obtain ⟨x, hx, e⟩ := List.mem_map.1 hm
    obtain ⟨m, e1, e2, _⟩ := (k2 w hw).2.2.1 x hx
    omega
  refine ⟨⟨by simp [l1], by simp [l2], l3, by simp [l4], by simp [l5], fun m hm => ?_⟩, fun j hj => ⟨⟨fun hx => ?_, fun hp => ?_⟩, ?_⟩, fun j hj op' th' e' => ?_, .inr ⟨hd, _, by rw [put_self]⟩⟩
  · dsimp only at hm ⊢
    rw [List.length_append, List.length_singleton] at hm
    by_cases e : m = t.given.length
    · rw [getD_snoc_eq e, getD_snoc_eq (e.trans l5.symm)]
      exact ⟨Nat.zero_le _, hd⟩
    · rw [getD_snoc_lt (by omega), getD_snoc_lt (by omega)]
      exact l6 m (by omega)
  · dsimp only
    by_cases e : j = d
    · subst e
      rw [put_self, getD_set_self (by omega)]
      rfl
    · rw [put_other s _ e] at hx ⊢
      rw [getD_set_ne' e]
      exact (k2 j hj).1.1 hx
  · obtain ⟨q1, q2⟩ := (k2 j hj).1.2 hp
    refine ⟨by rw [(hh j).2]; exact q1, fun w hw x hx m hm hlt => ?_⟩
    rw [(hh w).1] at hx
    obtain ⟨m', e1, e2, _⟩ := (k2 w hw).2.2.1 x hx
    have : m' = m := by omega
    subst this
    dsimp only at hlt
    rw [getD_snoc_lt e2] at hlt
    exact q2 w hw x hx m' hm hlt
  · obtain ⟨f1, f2, f3⟩ := (k2 j hj).2
    unfold SafeH
    rw [(hh j).1]
    refine ⟨f1, fun x hx => ?_, fun m hm ho ht => ?_⟩
    · obtain ⟨m, p1, p2, p3, p4⟩ := f2 x hx
      refine ⟨m, p1, by dsimp only; rw [List.length_append]; omega, by rw [getD_snoc_lt (by omega)]; exact p3, by dsimp only; rw [getD_snoc_lt (by omega)]; exact p4⟩
    · dsimp only at hm ht ⊢
      rw [List.length_append, List.length_singleton] at hm ⊢
      by_cases e : m = t.given.length
      · rw [getD_snoc_eq (e.trans l5.symm)] at ho
        exact .inr ⟨ho, by omega⟩
      · rw [getD_snoc_lt (by omega)] at ho ht
        rcases f3 m (by omega) ho ht with h | ⟨h, _⟩
        · exact .inl h
        · omega
  · dsimp only
    by_cases e : j = d
    · subst e
      rw [put_self] at e'
      injection e' with e1 e2
      refine ⟨getD_set_self (by omega), fun _ => ⟨rfl, ?_, ?_, ?_, ?_, ?_⟩⟩
      all_goals try dsimp only
      · rw [List.length_append, List.length_singleton, Nat.add_sub_cancel]; exact e2.symm
      · rw [List.length_append, List.length_singleton]; omega
      · rw [List.length_append, List.length_singleton, Nat.add_sub_cancel]; exact getD_snoc_eq l5.symm
      · rw [List.length_append, List.length_singleton, Nat.add_sub_cancel]; exact getD_snoc_eq l4.symm
      · rw [(hh j).1, ← e2]; exact hnm j hj
    · rw [put_other s _ e] at e'
      rw [getD_set_ne' e]
      have := k3 j hj op' th' e'
      exact ⟨this.1, fun e3 => by have := (this.2 e3).1; omega⟩
end Go.Proofs.Ytlgggeeflomelaa
