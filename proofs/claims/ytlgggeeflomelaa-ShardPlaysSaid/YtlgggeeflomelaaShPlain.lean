/- shard in plain Lean: a sorted list of keys with values; its calls. -/
import Derived.Test.YtlgggeeflomelaaOrdPlain
namespace Go.Proofs.Ytlgggeeflomelaa

abbrev Ent := List Nat × Int
/-- where a key stands, or would -/
def atE : List Ent → List Nat → Nat
  | [], _ => 0
  | e :: l, k => if ord e.1 k < 0 then atE l k + 1 else 0
def SortedE (l : List Ent) : Prop := l.Pairwise fun a b => ord a.1 b.1 < 0
theorem ord_lt_le {a b c : List Nat} (h1 : ord a b < 0) (h2 : ord b c ≤ 0) : ord a c < 0 := by have := (ord_trans a b c).2.1 h1 h2; omega
theorem ord_le_lt {a b c : List Nat} (h1 : ord a b ≤ 0) (h2 : ord b c < 0) : ord a c < 0 := by have := (ord_trans a b c).2.2 h1 h2; omega
theorem ord_ge {a b : List Nat} (h : ¬ ord a b < 0) : ord b a ≤ 0 := by have := ord_swap a b; omega
theorem at_le : ∀ (l : List Ent) (k : List Nat), atE l k ≤ l.length
  | [], _ => Nat.le_refl _
  | e :: l, k => by
    unfold atE
    split
    · have := at_le l k; simp only [List.length_cons]; omega
    · exact Nat.zero_le _
theorem at_before : ∀ (l : List Ent) (k : List Nat) (i : Nat) (e : Ent), i < atE l k → l[i]? = some e → ord e.1 k < 0
  | [], _, _, _, h, _ => by unfold atE at h; omega
  | x :: l, k, i, e, h, he => by
    unfold atE at h
    split at h
    · next hx =>
      cases i with
      | zero => simp at he; subst he; exact hx
      | succ i => exact at_before l k i e (by omega) (by simpa using he)
    · omega
theorem at_behind : ∀ (l : List Ent) (k : List Nat) (i : Nat) (e : Ent), SortedE l → atE l k ≤ i → l[i]? = some e → ¬ ord e.1 k < 0
  | [], _, _, _, _, _, he => by simp at he
  | x :: l, k, i, e, hs, h, he => by
    unfold atE at h
    have hs' := List.pairwise_cons.1 hs
    split at h
    · cases i with
      | zero => omega
      | succ i => exact at_behind l k i e hs'.2 (by omega) (by simpa using he)
    · next hx =>
      cases i with
      | zero => simp at he; subst he; exact hx
      | succ i =>
        have hm : e ∈ l := List.mem_of_getElem? (by simpa using he)
        exact fun hlt => hx (ord_lt_le (hs'.1 e hm) (by omega))
theorem at_eq {l : List Ent} {k : List Nat} {i : Nat} (hs : SortedE l) (hi : i ≤ l.length) (h1 : ∀ j e, j < i → l[j]? = some e → ord e.1 k < 0) (h2 : ∀ j e, i ≤ j → l[j]? = some e → ¬ ord e.1 k < 0) : i = atE l k := by
  have hle := at_le l k
  rcases Nat.lt_trichotomy i (atE l k) with h | h | h
  · have hil : i < l.length := by omega
    exact absurd (at_before l k i _ h (List.getElem?_eq_getElem hil)) (h2 i _ (Nat.le_refl i) (List.getElem?_eq_getElem hil))
  · exact h
  · have hil : atE l k < l.length := by omega
    exact absurd (h1 _ _ h (List.getElem?_eq_getElem hil)) (at_behind l k _ _ hs (Nat.le_refl _) (List.getElem?_eq_getElem hil))
/-- is it there? -/
def hasE (l : List Ent) (k : List Nat) : Bool := match l[atE l k]? with
  | some e => decide (e.1 = k)
  | none => false
/-- a key's value, 0 if it isn't there -/
def getE (l : List Ent) (k : List Nat) : Int := if hasE l k = true then ((l[atE l k]?).map (·.2)).getD 0 else 0
def putE (l : List Ent) (k : List Nat) (v : Int) : List Ent := l.take (atE l k) ++ (k, v) :: l.drop (if hasE l k = true then atE l k + 1 else atE l k)
def dropE (l : List Ent) (k : List Nat) : List Ent := l.take (atE l k) ++ l.drop (if hasE l k = true then atE l k + 1 else atE l k)
theorem has_lt {l : List Ent} {k : List Nat} (h : hasE l k = true) : atE l k < l.length := by
  unfold hasE at h
  cases he : l[atE l k]? with
  | none => rw [he] at h; cases h
  | some e => exact (List.getElem?_eq_some_iff.1 he).1
theorem has_get {l : List Ent} {k : List Nat} (h : hasE l k = true) : ∃ v, l[atE l k]? = some (k, v) ∧ getE l k = v := by
  unfold getE
  rw [if_pos h]
  unfold hasE at h
  cases he : l[atE l k]? with
  | none => rw [he] at h; cases h
  | some e =>
    rw [he] at h
    obtain ⟨a, b⟩ := e
    have : a = k := of_decide_eq_true h
    subst this
    exact ⟨b, rfl, rfl⟩
/-- the cell at the place says whether the key is there -/
theorem has_ord {l : List Ent} {k : List Nat} {e : Ent} (he : l[atE l k]? = some e) : hasE l k = decide (ord e.1 k = 0) := by
  unfold hasE
  rw [he]
  show decide (e.1 = k) = _
  by_cases h : e.1 = k
  · rw [decide_eq_true h, decide_eq_true ((ord_eq _ _).2 h)]
  · rw [decide_eq_false h, decide_eq_false (fun h2 => h ((ord_eq _ _).1 h2))]
theorem has_none {l : List Ent} {k : List Nat} (h : ¬ atE l k < l.length) : hasE l k = false := by
  unfold hasE
  rw [List.getElem?_eq_none (by omega)]
/-- an entry of the list, by its key -/
theorem has_iff {l : List Ent} {k : List Nat} (hs : SortedE l) : hasE l k = true ↔ ∃ e ∈ l, e.1 = k := by
  constructor
  · intro h
    obtain ⟨v, hv, _⟩ := has_get h
    exact ⟨(k, v), List.mem_of_getElem? hv, rfl⟩
  · rintro ⟨e, hm, rfl⟩
    obtain ⟨i, hi⟩ := List.getElem?_of_mem hm
    have hil := (List.getElem?_eq_some_iff.1 hi).1
    have hii : i = atE l e.1 := at_eq hs (by omega) (fun j x hj hx => by
      obtain ⟨a, b⟩ := List.getElem?_eq_some_iff.1 hx
      obtain ⟨c, d⟩ := List.getElem?_eq_some_iff.1 hi
      rw [← b, ← d]
      exact List.pairwise_iff_getElem.1 hs j i a c hj) (fun j x hj hx => by
      rcases Nat.lt_or_ge i j with h | h
      · obtain ⟨a, b⟩ := List.getElem?_eq_some_iff.1 hx
        obtain ⟨c, d⟩ := List.getElem?_eq_some_iff.1 hi
        have := List.pairwise_iff_getElem.1 hs i j c a h
        rw [d, b] at this
        have h9 := ord_swap e.1 x.1
        omega
      · have : j = i := by omega
        subst this
        rw [hi] at hx
        injection hx with hx
        subst hx
        rw [ord_refl]; omega)
    unfold hasE
    rw [← hii, hi]
    exact decide_eq_true rfl
/-- what each entry is -/
def OkE (e : Ent) : Prop := e.1.length ≤ 256 ∧ (∀ x ∈ e.1, x < 256) ∧ 0 ≤ e.2 ∧ e.2 ≤ 4611686018427387903
theorem put_ok {l : List Ent} {k : List Nat} {v : Int} (h : ∀ e ∈ l, OkE e) (hk : OkE (k, v)) : ∀ e ∈ putE l k v, OkE e := fun e he => by
  rcases List.mem_append.1 he with he | he
  · exact h e (List.mem_of_mem_take he)
  · rcases List.mem_cons.1 he with he | he
    · rw [he]; exact hk
    · exact h e (List.mem_of_mem_drop he)
theorem drop_ok {l : List Ent} {k : List Nat} (h : ∀ e ∈ l, OkE e) : ∀ e ∈ dropE l k, OkE e := fun e he => by
  rcases List.mem_append.1 he with he | he
  · exact h e (List.mem_of_mem_take he)
  · exact h e (List.mem_of_mem_drop he)
theorem take_lt {l : List Ent} {k : List Nat} {e : Ent} (he : e ∈ l.take (atE l k)) : ord e.1 k < 0 := by
  obtain ⟨i, hi⟩ := List.getElem?_of_mem he
  rw [List.getElem?_take] at hi
  split at hi
  · next h => exact at_before l k i e h hi
  · cases hi
theorem drop_gt {l : List Ent} {k : List Nat} {e : Ent} (hs : SortedE l) (he : e ∈ l.drop (if hasE l k = true then atE l k + 1 else atE l k)) : ord k e.1 < 0 := by
  obtain ⟨i, hi⟩ := List.getElem?_of_mem he
  rw [List.getElem?_drop] at hi
  by_cases h : hasE l k = true
  · rw [if_pos h] at hi
    obtain ⟨v, hv, _⟩ := has_get h
    obtain ⟨a, b⟩ := List.getElem?_eq_some_iff.1 hv
    obtain ⟨c, d⟩ := List.getElem?_eq_some_iff.1 hi
    have := List.pairwise_iff_getElem.1 hs _ _ a c (by omega)
    rw [b, d] at this
    exact this
  · rw [if_neg h] at hi
    have h1 := at_behind l k _ e hs (by omega) hi
    have h2 := ord_swap e.1 k
    have h3 : ord e.1 k ≠ 0 := fun h0 => h ((has_iff hs).2 ⟨e, List.mem_of_getElem? hi, (ord_eq _ _).1 h0⟩)
    omega
theorem put_sorted {l : List Ent} {k : List Nat} {v : Int} (hs : SortedE l) : SortedE (putE l k v) := by
  refine List.pairwise_append.2 ⟨hs.sublist (List.take_sublist _ _), List.pairwise_cons.2 ⟨fun e he => drop_gt hs he, hs.sublist (List.drop_sublist _ _)⟩, fun a ha b hb => ?_⟩
  rcases List.mem_cons.1 hb with hb | hb
  · rw [hb]; exact take_lt ha
  · have h1 := take_lt ha
    have h2 := drop_gt hs hb
    exact ord_lt_le h1 (by omega)
theorem drop_sorted {l : List Ent} {k : List Nat} (hs : SortedE l) : SortedE (dropE l k) := by
  refine List.pairwise_append.2 ⟨hs.sublist (List.take_sublist _ _), hs.sublist (List.drop_sublist _ _), fun a ha b hb => ?_⟩
  have h1 := take_lt ha
  have h2 := drop_gt hs hb
  exact ord_lt_le h1 (by omega)
theorem put_len {l : List Ent} {k : List Nat} {v : Int} : (putE l k v).length = if hasE l k = true then l.length else l.length + 1 := by
  unfold putE
  have hle := at_le l k
  rw [List.length_append, List.length_take, List.length_cons, List.length_drop]
  split
  · next h => have := has_lt h; omega
  · omega
theorem drop_len {l : List Ent} {k : List Nat} : (dropE l k).length ≤ l.length := by
  unfold dropE
  have hle := at_le l k
  rw [List.length_append, List.length_take, List.length_drop]
  split <;> omega
/-- the version that a call makes of one, the value that it answers, the error -/
def madeE (op : Nat) (k : List Nat) (v : Int) (l : List Ent) : List Ent × Int × Nat :=
  if op = 4 ∧ hasE l k = false then ([], 0, 7) else if op = 4 then (dropE l k, getE l k, 0) else if hasE l k = false ∧ l.length = 4096 then ([], 0, 10)
  else (putE l k (if op = 2 then v else min (getE l k + v) 4611686018427387903), if op = 2 then v else min (getE l k + v) 4611686018427387903, 0)
inductive SCall where
  | idle
  | begun (op : Nat) (key : List Nat) (val : Int)
  | swap (op : Nat) (key : List Nat) (val : Int) (v : Nat) (m : List Ent) (n : Int)
structure SSt where
  ver : Nat
  lst : List Ent
  call : Nat → SCall
structure SRes where
  done : Bool
  err : Nat
  num : Int
def updS {α : Type} (f : Nat → α) (i : Nat) (x : α) : Nat → α := fun j => if j = i then x else f j
theorem updS_self {α : Type} (f : Nat → α) (i : Nat) (x : α) : updS f i x i = x := if_pos rfl
theorem updS_other {α : Type} (f : Nat → α) {i j : Nat} (x : α) (h : j ≠ i) : updS f i x j = f j := if_neg h
def SSt.put (s : SSt) (who : Nat) (c : SCall) : SSt := { s with call := updS s.call who c }
def sStep (s : SSt) (who : Nat) : SSt × SRes :=
  match s.call who with
  | .idle => (s, ⟨false, 0, 0⟩)
  | .begun op key val =>
    if op = 1 then (if hasE s.lst key = true then (s.put who .idle, ⟨true, 0, getE s.lst key⟩) else (s.put who .idle, ⟨true, 7, 0⟩))
    else if (madeE op key val s.lst).2.2 ≠ 0 then (s.put who .idle, ⟨true, (madeE op key val s.lst).2.2, 0⟩)
    else (s.put who (.swap op key val s.ver (madeE op key val s.lst).1 (madeE op key val s.lst).2.1), ⟨false, 0, 0⟩)
  | .swap op key val v m n =>
    if s.ver = v then ({ s.put who .idle with ver := v + 1, lst := m }, ⟨true, 0, n⟩) else (s.put who (.begun op key val), ⟨false, 0, 0⟩)
/-- what was asked is right -/
def AskOk (op : Nat) (key : List Nat) (val : Int) : Prop := 1 ≤ op ∧ op ≤ 4 ∧ key.length ≤ 256 ∧ (∀ x ∈ key, x < 256) ∧ (op = 2 ∨ op = 3 → 0 ≤ val ∧ val ≤ 4611686018427387903)
def LstOk (l : List Ent) : Prop := SortedE l ∧ (∀ e ∈ l, OkE e) ∧ l.length ≤ 4096
def SInv (s : SSt) : Prop := LstOk s.lst ∧ 1 ≤ s.ver ∧ ∀ w, match s.call w with
  | .idle => True
  | .begun op key val => AskOk op key val
  | .swap op key val v m n => AskOk op key val ∧ op ≠ 1 ∧ LstOk m ∧ v ≤ s.ver ∧ (v = s.ver → madeE op key val s.lst = (m, n, 0)) ∧ 0 ≤ n ∧ n ≤ 4611686018427387903
theorem get_ok {l : List Ent} {k : List Nat} (h : ∀ e ∈ l, OkE e) : 0 ≤ getE l k ∧ getE l k ≤ 4611686018427387903 := by
  by_cases hh : hasE l k = true
  · obtain ⟨v, hv, e⟩ := has_get hh
    rw [e]
    exact ⟨(h _ (List.mem_of_getElem? hv)).2.2.1, (h _ (List.mem_of_getElem? hv)).2.2.2⟩
  · unfold getE
    rw [if_neg hh]
    omega
theorem made_ok {op : Nat} {k : List Nat} {v : Int} {l : List Ent} (h : LstOk l) (ha : AskOk op k v) (h1 : op ≠ 1) : LstOk (madeE op k v l).1 ∧ 0 ≤ (madeE op k v l).2.1 ∧ (madeE op k v l).2.1 ≤ 4611686018427387903 := by
  obtain ⟨s1, s2, s3⟩ := h
  obtain ⟨a1, a2, a3, a4, a5⟩ := ha
  have hg := get_ok (k := k) s2
  unfold madeE
  split
  · exact ⟨⟨List.Pairwise.nil, (fun e he => by cases he), Nat.zero_le _⟩, by dsimp only; omega, by dsimp only; omega⟩
  · split
    · exact ⟨⟨drop_sorted s1, drop_ok s2, Nat.le_trans drop_len s3⟩, hg.1, hg.2⟩
    · next h4 =>
      split
      · exact ⟨⟨List.Pairwise.nil, (fun e he => by cases he), Nat.zero_le _⟩, by dsimp only; omega, by dsimp only; omega⟩
      · next hf =>
        have hv := a5 (by omega)
        have hx : 0 ≤ (if op = 2 then v else min (getE l k + v) 4611686018427387903) ∧ (if op = 2 then v else min (getE l k + v) 4611686018427387903) ≤ 4611686018427387903 := by
          split
          · exact hv
          · omega
        refine ⟨⟨put_sorted s1, put_ok s2 ⟨a3, a4, hx.1, hx.2⟩, ?_⟩, hx.1, hx.2⟩
        show (putE l k _).length ≤ 4096
        rw [put_len]
        split
        · exact s3
        · next hh =>
          have : ¬ l.length = 4096 := fun e => hf ⟨by simpa using hh, e⟩
          omega
theorem sput_self (s : SSt) (who : Nat) (c : SCall) : (s.put who c).call who = c := updS_self _ _ _
theorem sput_other (s : SSt) {who j : Nat} (c : SCall) (h : j ≠ who) : (s.put who c).call j = s.call j := updS_other _ _ h
theorem sinv_new : SInv ⟨1, [], fun _ => .idle⟩ := ⟨⟨List.Pairwise.nil, (fun e he => by cases he), Nat.zero_le _⟩, Nat.le_refl _, fun _ => trivial⟩
def CallOk (s : SSt) (c : SCall) : Prop := match c with
  | .idle => True
  | .begun op key val => AskOk op key val
  | .swap op key val v m n => AskOk op key val ∧ op ≠ 1 ∧ LstOk m ∧ v ≤ s.ver ∧ (v = s.ver → madeE op key val s.lst = (m, n, 0)) ∧ 0 ≤ n ∧ n ≤ 4611686018427387903
theorem sinv_put {s : SSt} {who : Nat} {c : SCall} (h : SInv s) (hc : CallOk s c) : SInv (s.put who c) := ⟨h.1, h.2.1, fun w => by
  by_cases e : w = who
  · subst e
    rw [sput_self]
    exact hc
  · rw [sput_other s c e]
    exact h.2.2 w⟩
theorem sinv_step {s : SSt} {who : Nat} (h : SInv s) : SInv (sStep s who).1 := by
  have hc := h.2.2 who
  unfold sStep
  cases he : s.call who with
  | idle => exact h
  | begun op key val =>
    rw [he] at hc
    dsimp only
    by_cases h1 : op = 1
    · rw [if_pos h1]
      split
      · exact sinv_put h trivial
      · exact sinv_put h trivial
    · rw [if_neg h1]
      by_cases h2 : (madeE op key val s.lst).2.2 ≠ 0
      · rw [if_pos h2]
        exact sinv_put h trivial
      · rw [if_neg h2]
        obtain ⟨m1, m2, m3⟩ := made_ok h.1 hc h1
        refine sinv_put h ⟨hc, h1, m1, Nat.le_refl _, fun _ => ?_, m2, m3⟩
        have h0 : (madeE op key val s.lst).2.2 = 0 := by omega
        exact Prod.ext rfl (Prod.ext rfl h0)
  | swap op key val v m n =>
    rw [he] at hc
    dsimp only
    obtain ⟨c1, c2, c3, c4, c5, c6⟩ := hc
    by_cases h1 : s.ver = v
    · rw [if_pos h1]
      refine ⟨c3, Nat.succ_pos v, fun w => ?_⟩
      show (match updS s.call who .idle w with | .idle => True | .begun op key val => AskOk op key val | .swap op key val v' m' n => AskOk op key val ∧ op ≠ 1 ∧ LstOk m' ∧ v' ≤ v + 1 ∧ (v' = v + 1 → madeE op key val m = (m', n, 0)) ∧ 0 ≤ n ∧ n ≤ 4611686018427387903)
      by_cases e : w = who
      · subst e
        rw [updS_self]
        trivial
      · rw [updS_other _ _ e]
        have := h.2.2 w
        cases hw : s.call w with
        | idle => trivial
        | begun op key val => rw [hw] at this; exact this
        | swap op key val v' m' n =>
          rw [hw] at this
          obtain ⟨d1, d2, d3, d4, d5, d6⟩ := this
          exact ⟨d1, d2, d3, by omega, fun e => by omega, d6⟩
    · rw [if_neg h1]
      exact sinv_put h c1
end Go.Proofs.Ytlgggeeflomelaa
