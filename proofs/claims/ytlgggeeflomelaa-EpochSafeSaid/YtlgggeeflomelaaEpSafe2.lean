/- EpochSafe in plain Lean: its end: three Advances, and each worker collects all that it holds. -/
import Derived.Test.YtlgggeeflomelaaEpSafe
namespace Go.Proofs.Ytlgggeeflomelaa

/-- nobody is pinned, no call is under way -/
def EndOk (s : ESt) : Prop := ∀ d, d < 4 → (s.wk d).call = .idle ∧ (s.wk d).pinned = false
theorem all_zero {s : ESt} (hI : EInv 4 s) (h : EndOk s) : ∀ d, d < 4 → s.pw d = 0 := fun d hd => by
  have hE := (hI d hd).1
  unfold EWord at hE
  rw [if_neg (pinned_false (h d hd).2), (h d hd).1] at hE
  exact hE
theorem left_begun {n who op : Nat} {th : Int} {s : ESt} (hn : n ≤ 64) : leftOf n (s.put who { s.wk who with call := .begun op th }) who ≤ 100 := by
  unfold leftOf
  rw [put_self]
  show (if op = 1 then 3 else if op = 4 then n + 2 else 1) ≤ 100
  split
  · omega
  · split <;> omega
theorem adv_ok {s : ESt} (hI : EInv 4 s) (h : EndOk s) : ∃ s', eRun 4 0 100 (s.put 0 { s.wk 0 with call := .begun 4 0 }) = (s', ⟨true, 0, s.ep + 1, []⟩) ∧ s'.ep = s.ep + 1 ∧ EndOk s' ∧ ∀ w, (s'.wk w).held = (s.wk w).held := by
  have hI1 := einv_start (thing := 0) hI (show 0 < 4 by omega) (h 0 (by omega)).1 (show 1 ≤ 4 by omega) (by omega) (fun e => by cases e) (fun e => by cases e)
  obtain ⟨hf, ho, _⟩ := run_alone 100 _ hI1 (show 0 < 4 by omega) (alone_start (op := 4) (thing := 0)) (left_begun (by omega))
  obtain ⟨⟨s', r⟩, hP⟩ : ∃ P, eRun 4 0 100 (s.put 0 { s.wk 0 with call := .begun 4 0 }) = P := ⟨_, rfl⟩
  rw [hP] at hf ho ⊢
  obtain ⟨f1, f⟩ := hf
  rcases f with ⟨e, _⟩ | ⟨e, _⟩ | ⟨e, _⟩ | ⟨_, f2, f3, _, f⟩ | ⟨e, _⟩
  · cases e
  · cases e
  · cases e
  · have hw : ∀ w, (s'.wk w).held = (s.wk w).held ∧ (s'.wk w).pinned = (s.wk w).pinned ∧ ((s.wk w).call = .idle → (s'.wk w).call = .idle) := fun w => by
      by_cases e : w = 0
      · subst e; exact ⟨f3, f2, fun _ => f1⟩
      · have := ho w e
        rw [show s'.wk w = _ from this, put_other s _ e]
        exact ⟨rfl, rfl, id⟩
    rcases f with ⟨f4, f5⟩ | ⟨_, _, i, hi, hp⟩
    · exact ⟨s', by rw [show r = _ from f5], f4, fun d hd => ⟨(hw d).2.2 (h d hd).1, by rw [(hw d).2.1]; exact (h d hd).2⟩, fun w => (hw w).1⟩
    · exact absurd (all_zero hI h i hi) hp
  · cases e
theorem coll_ok {s : ESt} {who : Nat} (hI : EInv 4 s) (hw : who < 4) (h : EndOk s) (ho : ∀ x ∈ (s.wk who).held, x.2 + 2 ≤ s.ep) :
    ∃ s' th, eRun 4 who 100 (s.put who { s.wk who with call := .begun 5 0 }) = (s', ⟨true, 0, (s.wk who).held.length, th⟩) ∧ th.length = (s.wk who).held.length ∧ s'.ep = s.ep ∧ EndOk s' ∧ (s'.wk who).held = [] ∧ ∀ w, w ≠ who → (s'.wk w).held = (s.wk w).held := by
  have hI1 := einv_start (thing := 0) hI hw (h who hw).1 (show 1 ≤ 5 by omega) (by omega) (fun e => by cases e) (fun e => by cases e)
  obtain ⟨hf, hot, _⟩ := run_alone 100 _ hI1 hw (alone_start (op := 5) (thing := 0)) (left_begun (by omega))
  obtain ⟨⟨s', r⟩, hP⟩ : ∃ P, eRun 4 who 100 (s.put who { s.wk who with call := .begun 5 0 }) = P := ⟨_, rfl⟩
  rw [hP] at hf hot ⊢
  obtain ⟨f1, f⟩ := hf
  have hall : (s.wk who).held.filter (isOld s.ep) = (s.wk who).held := List.filter_eq_self.2 fun x hx => decide_eq_true (ho x hx)
  have hst : stayOf s.ep (s.wk who).held = [] := List.filter_eq_nil_iff.2 fun x hx => by
    rw [show isOld s.ep x = true from decide_eq_true (ho x hx)]
    decide
  have hlen : (oldOf s.ep (s.wk who).held).length = (s.wk who).held.length := by unfold oldOf; rw [hall, List.length_map]
  rcases f with ⟨e, _⟩ | ⟨e, _⟩ | ⟨e, _⟩ | ⟨e, _⟩ | ⟨_, f2, f3, f4, f5⟩
  · cases e
  · cases e
  · cases e
  · cases e
  · have hw : ∀ w, w ≠ who → s'.wk w = s.wk w := fun w e => by
      have := hot w e
      rw [show s'.wk w = _ from this, put_other s _ e]
    refine ⟨s', oldOf s.ep (s.wk who).held, by rw [show r = _ from f5, hlen], hlen, f3, fun d hd => ?_, f4.trans hst, fun w e => by rw [hw w e]⟩
    by_cases e : d = who
    · subst e; exact ⟨f1, f2.trans (h d hd).2⟩
    · rw [hw d e]; exact h d hd
/-- how many things of each worker were not taken -/
def leftL (own tk : List Nat) : Nat → List Nat
  | 0 => [0, 0, 0, 0]
  | k + 1 => if tk.getD k 0 = 0 then (leftL own tk k).set (own.getD k 0) ((leftL own tk k).getD (own.getD k 0) 0 + 1) else leftL own tk k
theorem leftL_len (own tk : List Nat) : ∀ k, (leftL own tk k).length = 4
  | 0 => rfl
  | k + 1 => by
    unfold leftL
    split
    · rw [List.length_set]; exact leftL_len own tk k
    · exact leftL_len own tk k
theorem leftL_get {own tk : List Nat} {w : Nat} (hw : w < 4) : ∀ k, (∀ m, m < k → own.getD m 0 < 4) → (leftL own tk k).getD w 0 = ((List.range k).filter fun m => decide (own.getD m 0 = w) && decide (tk.getD m 0 = 0)).length
  | 0, _ => by rcases (by omega : w = 0 ∨ w = 1 ∨ w = 2 ∨ w = 3) with rfl | rfl | rfl | rfl <;> rfl
  | k + 1, h => by
    have ih := leftL_get (own := own) (tk := tk) hw k (fun m hm => h m (by omega))
    have ho := h k (by omega)
    have hs : leftL own tk (k + 1) = if tk.getD k 0 = 0 then (leftL own tk k).set (own.getD k 0) ((leftL own tk k).getD (own.getD k 0) 0 + 1) else leftL own tk k := rfl
    rw [List.range_succ, List.filter_append, List.length_append, ← ih, hs]
    by_cases ht : tk.getD k 0 = 0
    · rw [if_pos ht]
      by_cases hk : own.getD k 0 = w
      · rw [hk, getD_set_self (by rw [leftL_len]; exact hw)]
        rw [List.filter_cons_of_pos (by simp only [hk, ht]; decide)]
        rfl
      · rw [getD_set_ne' (fun e => hk e.symm), List.filter_cons_of_neg (by simp only [ht]; simpa using hk)]
        rfl
    · rw [if_neg ht, List.filter_cons_of_neg (by simp only [Bool.and_eq_true, decide_eq_true_eq]; exact fun e => ht e.2)]
      rfl
theorem left_held {s : ESt} {t : Wt} {own : List Nat} {w : Nat} (h : SafeR s t own 4) (hw : w < 4) : (leftL own t.taken t.given.length).getD w 0 = (s.wk w).held.length := by
  obtain ⟨⟨_, _, _, _, _, l6⟩, k2, _⟩ := h
  obtain ⟨g1, g2, g3⟩ := (k2 w hw).2
  rw [leftL_get hw _ (fun m hm => (l6 m hm).2)]
  have hn : (((List.range t.given.length).filter fun m => decide (own.getD m 0 = w) && decide (t.taken.getD m 0 = 0)).map fun m : Nat => (m : Int)).Nodup := by
    refine List.pairwise_map.2 (List.Pairwise.imp (fun {a b} hab e => hab (by omega)) (List.nodup_range.sublist List.filter_sublist))
  have hp := (List.perm_ext_iff_of_nodup hn g1).2 fun a => by
    constructor
    · intro ha
      obtain ⟨m, hm, rfl⟩ := List.mem_map.1 ha
      obtain ⟨h1, h2⟩ := List.mem_filter.1 hm
      rw [Bool.and_eq_true] at h2
      rcases g3 m (List.mem_range.1 h1) (of_decide_eq_true h2.1) (of_decide_eq_true h2.2) with h | ⟨h, _⟩
      · exact h
      · omega
    · intro ha
      obtain ⟨x, hx, rfl⟩ := List.mem_map.1 ha
      obtain ⟨m, e1, e2, e3, e4⟩ := g2 x hx
      refine List.mem_map.2 ⟨m, List.mem_filter.2 ⟨List.mem_range.2 e2, ?_⟩, e1.symm⟩
      rw [Bool.and_eq_true]
      exact ⟨decide_eq_true e3, decide_eq_true e4⟩
  have := hp.length_eq
  rw [List.length_map, List.length_map] at this
  exact this
end Go.Proofs.Ytlgggeeflomelaa
