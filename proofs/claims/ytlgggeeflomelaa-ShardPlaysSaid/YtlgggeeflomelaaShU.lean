/- law 14, ShardAtOnce in plain Lean: each call as if at once. -/
import Derived.Test.YtlgggeeflomelaaShT
import Derived.Test.YtlgggeeflomelaaShM
namespace Go.Proofs.Ytlgggeeflomelaa
open Go.RowKit

/-- what a call was asked -/
def SCall.ask : SCall → Option (Nat × List Nat × Int)
  | .idle => none
  | .begun op key val => some (op, key, val)
  | .swap op key val _ _ _ => some (op, key, val)
theorem ask_idle {c : SCall} (h : c.ask = none) : c = .idle := by cases c <;> first | rfl | cases h
theorem madeE_done {op : Nat} {key : List Nat} {val : Int} {l : List Ent} (h1 : op ≠ 1) (h : (madeE op key val l).2.2 = 0) : ((madeE op key val l).1, (0 : Nat), (madeE op key val l).2.1) = doneE l op key val := by
  unfold madeE at h ⊢
  unfold doneE
  by_cases h4 : op = 4 ∧ hasE l key = false
  · rw [if_pos h4] at h; cases h
  · rw [if_neg h4] at h ⊢
    by_cases ho : op = 4
    · have hh : ¬ (hasE l key = false ∧ (op = 1 ∨ op = 4)) := fun e => h4 ⟨ho, e.1⟩
      rw [if_pos ho, if_neg hh, if_neg h1, if_pos ho]
    · rw [if_neg ho] at h ⊢
      by_cases hf : hasE l key = false ∧ l.length = 4096
      · rw [if_pos hf] at h; cases h
      · have hh : ¬ (hasE l key = false ∧ (op = 1 ∨ op = 4)) := fun e => e.2.elim h1 ho
        rw [if_neg hf, if_neg hh, if_neg h1, if_neg ho]
theorem madeE_err {op : Nat} {key : List Nat} {val : Int} {l : List Ent} (hl : l.length < 4096) (h : (madeE op key val l).2.2 ≠ 0) : (madeE op key val l).2.2 = 7 ∧ doneE l op key val = (l, 7, 0) := by
  unfold madeE at h ⊢
  unfold doneE
  by_cases h4 : op = 4 ∧ hasE l key = false
  · rw [if_pos h4, if_pos ⟨h4.2, .inr h4.1⟩]
    exact ⟨rfl, rfl⟩
  · rw [if_neg h4] at h
    by_cases ho : op = 4
    · rw [if_pos ho] at h; exact absurd rfl h
    · rw [if_neg ho, if_neg (fun e => absurd e.2 (by omega))] at h
      exact absurd rfl h
def OnceP (l : List Ent) (op : Nat) (key : List Nat) (val : Int) (p : SSt × SRes) : Prop := (p.2.done = true → doneE l op key val = (p.1.lst, p.2.err, p.2.num)) ∧ (p.2.done = false → p.1.lst = l ∧ p.2.err = 0 ∧ p.2.num = 0)
theorem onceP_done {l : List Ent} {op : Nat} {key : List Nat} {val : Int} {s' : SSt} {e : Nat} {n : Int} (h : doneE l op key val = (s'.lst, e, n)) : OnceP l op key val (s', ⟨true, e, n⟩) := ⟨fun _ => h, (fun h => by cases h)⟩
theorem onceP_not {l : List Ent} {op : Nat} {key : List Nat} {val : Int} {s' : SSt} (h : s'.lst = l) : OnceP l op key val (s', ⟨false, 0, 0⟩) := ⟨(fun h => by cases h), fun _ => ⟨h, rfl, rfl⟩⟩
/-- each call's answer, and the map behind it, is that of the call done at once at the step with which it returns -/
theorem once_step {s : SSt} {d op : Nat} {key : List Nat} {val : Int} (h : SInv s) (hl : s.lst.length < 4096) (ha : (s.call d).ask = some (op, key, val)) : OnceP s.lst op key val (sStep s d) := by
  have hc := h.2.2 d
  unfold sStep
  cases he : s.call d with
  | idle => rw [he] at ha; cases ha
  | begun op' key' val' =>
    rw [he] at ha hc
    injection ha with ha
    injection ha with h1 h2
    injection h2 with h2 h3
    subst h1 h2 h3
    dsimp only
    by_cases h1 : op' = 1
    · subst h1
      rw [if_pos rfl]
      by_cases hh : hasE s.lst key' = true
      · rw [if_pos hh]
        exact onceP_done (done_get hh)
      · rw [if_neg hh]
        exact onceP_done (done_none (by simpa using hh) (.inl rfl))
    · rw [if_neg h1]
      by_cases h2 : (madeE op' key' val' s.lst).2.2 ≠ 0
      · obtain ⟨e1, e2⟩ := madeE_err hl h2
        rw [if_pos h2, e1]
        exact onceP_done e2
      · rw [if_neg h2]
        exact onceP_not rfl
  | swap op' key' val' v m n =>
    rw [he] at ha hc
    injection ha with ha
    injection ha with h1 h2
    injection h2 with h2 h3
    subst h1 h2 h3
    obtain ⟨c1, c2, c3, c4, c5, c6⟩ := hc
    dsimp only
    by_cases h1 : s.ver = v
    · have e := c5 h1.symm
      have e0 : (madeE op' key' val' s.lst).2.2 = 0 := by rw [e]
      have := madeE_done c2 e0
      rw [e] at this
      rw [if_pos h1]
      exact onceP_done this.symm
    · rw [if_neg h1]
      exact onceP_not rfl
theorem len_step {s : SSt} {d : Nat} (h : SInv s) : (sStep s d).1.lst.length ≤ s.lst.length + 1 := by
  have hc := h.2.2 d
  unfold sStep
  cases he : s.call d with
  | idle => exact Nat.le_succ _
  | begun op key val =>
    dsimp only
    split
    · split <;> exact Nat.le_succ _
    · split <;> exact Nat.le_succ _
  | swap op key val v m n =>
    rw [he] at hc
    obtain ⟨c1, c2, c3, c4, c5, c6⟩ := hc
    dsimp only
    split
    · next h1 =>
      have e := c5 h1.symm
      show m.length ≤ _
      unfold madeE at e
      split at e
      · injection e with e _; rw [← e]; exact Nat.zero_le _
      · split at e
        · injection e with e _; rw [← e]; exact Nat.le_trans drop_len (Nat.le_succ _)
        · split at e
          · injection e with e _; rw [← e]; exact Nat.zero_le _
          · injection e with e _; rw [← e, put_len]; split <;> omega
    · exact Nat.le_succ _
theorem ask_step {s : SSt} {who : Nat} : (sStep s who).1.call who = .idle ∨ ((sStep s who).1.call who).ask = (s.call who).ask := by
  unfold sStep
  cases he : s.call who with
  | idle => exact .inl he
  | begun op key val =>
    dsimp only
    split
    · split <;> exact .inl (sput_self _ _ _)
    · split
      · exact .inl (sput_self _ _ _)
      · exact .inr (by dsimp only; rw [sput_self]; rfl)
  | swap op key val v m n =>
    dsimp only
    split
    · exact .inl (updS_self _ _ _)
    · exact .inr (by dsimp only; rw [sput_self]; rfl)
/-- the array of calls in memory -/
def CallsAt (w0 w : World) (ab : Nat) (s : SSt) : Prop := (∃ cs t, w.heap[ab]? = some (.cells cs t (0, 0)) ∧ cs.size = 16) ∧ ∀ d, d < 4 → ∀ op key val, (s.call d).ask = some (op, key, val) →
  ∃ (who : Int) (K : Option Addr) (kc : Nat), w.cell? ⟨ab, d * 4, none⟩ = some (.int .i64 who) ∧ w.cell? ⟨ab, d * 4 + 1, none⟩ = some (.int .u8 (op : Int)) ∧ w.cell? ⟨ab, d * 4 + 2, none⟩ = some (.slice K key.length kc) ∧ w.cell? ⟨ab, d * 4 + 3, none⟩ = some (.int .i64 val) ∧ key.length ≤ kc ∧ Rd w0 K (vals .u8 key) ∧ AskOk op key val
theorem CallsAt.gb {w0 w w' : World} {S : Nat → Prop} {ab : Nat} {s : SSt} (h : CallsAt w0 w ab s) (g : GB w w' S) (hn : ¬ S ab) : CallsAt w0 w' ab s := by
  obtain ⟨⟨cs, t, h1, h2⟩, h3⟩ := h
  refine ⟨⟨cs, t, g.blk h1 hn, h2⟩, fun d hd op key val ha => ?_⟩
  obtain ⟨who, K, kc, c0, c1, c2, c3, c4⟩ := h3 d hd op key val ha
  exact ⟨who, K, kc, g.cell c0 hn, g.cell c1 hn, g.cell c2 hn, g.cell c3 hn, c4⟩
theorem CallsAt.step {w0 w : World} {ab : Nat} {s : SSt} (h : CallsAt w0 w ab s) (who : Nat) : CallsAt w0 w ab (sStep s who).1 := ⟨h.1, fun d hd op key val ha => by
  by_cases e : d = who
  · subst e
    rcases ask_step (s := s) (who := d) with h1 | h1
    · rw [h1] at ha; cases ha
    · exact h.2 d hd op key val (h1 ▸ ha)
  · rw [sother e] at ha
    exact h.2 d hd op key val ha⟩
/-- a call that begins is laid into the array -/
theorem CallsAt.start {w0 w : World} {ab : Nat} {s : SSt} (h : CallsAt w0 w ab s) {d op kc m : Nat} {key : List Nat} {val who : Int} {K : Option Addr} (hd : d < 4) (hm : key.length = m) (hk : m ≤ kc) (hr : Rd w0 K (vals .u8 key)) (ho : AskOk op key val) :
    CallsAt w0 (((((w.setCell ⟨ab, d * 4, none⟩ (.int .i64 who)).setCell ⟨ab, d * 4 + 1, none⟩ (.int .u8 (op : Int))).setCell ⟨ab, d * 4 + 2, none⟩ (.slice K m kc)).setCell ⟨ab, d * 4 + 3, none⟩ (.int .i64 val))) ab (s.put d (.begun op key val)) := by
  subst hm
  obtain ⟨⟨cs, t, h1, h2⟩, h3⟩ := h
  have hb := blk_set (blk_set (blk_set (blk_set h1 (d * 4) (.int .i64 who)) (d * 4 + 1) (.int .u8 (op : Int))) (d * 4 + 2) (.slice K key.length kc)) (d * 4 + 3) (.int .i64 val)
  have hget : ∀ i, ((((w.setCell ⟨ab, d * 4, none⟩ (.int .i64 who)).setCell ⟨ab, d * 4 + 1, none⟩ (.int .u8 (op : Int))).setCell ⟨ab, d * 4 + 2, none⟩ (.slice K key.length kc)).setCell ⟨ab, d * 4 + 3, none⟩ (.int .i64 val)).cell? ⟨ab, i, none⟩ = _ := fun i => blk_cell hb i
  refine ⟨⟨_, t, hb, by simpa using h2⟩, fun e he op' key' val' ha => ?_⟩
  by_cases e1 : e = d
  · subst e1
    rw [sput_self] at ha
    injection ha with ha
    injection ha with k1 k2
    injection k2 with k2 k3
    subst k1 k2 k3
    refine ⟨who, K, kc, ?_, ?_, ?_, ?_, hk, hr, ho⟩
    · rw [hget]; simp [Array.getElem?_setIfInBounds, h2]; omega
    · rw [hget]; simp [Array.getElem?_setIfInBounds, h2]; omega
    · rw [hget]; simp [Array.getElem?_setIfInBounds, h2]; omega
    · rw [hget]; simp [Array.getElem?_setIfInBounds, h2]; omega
  · rw [sput_other s _ e1] at ha
    obtain ⟨who', K', kc', c0, c1, c2, c3, c4⟩ := h3 e he op' key' val' ha
    refine ⟨who', K', kc', cell_off (cell_off (cell_off (cell_off c0 (by omega)) (by omega)) (by omega)) (by omega), cell_off (cell_off (cell_off (cell_off c1 (by omega)) (by omega)) (by omega)) (by omega), cell_off (cell_off (cell_off (cell_off c2 (by omega)) (by omega)) (by omega)) (by omega), cell_off (cell_off (cell_off (cell_off c3 (by omega)) (by omega)) (by omega)) (by omega), c4⟩
/-- the document's list in memory: its row nobody writes; its keys were there from the beginning -/
def LstAt (w0 w : World) (F : Nat → Prop) (ab : Nat) (A : Option Addr) (l : List Ent) : Prop := ∃ ks, EntRd w A l ks ∧ (∀ p ∈ ks.zip l, Rd w0 p.1.1 (vals .u8 p.2.1)) ∧ ∀ a, A = some a → ¬ F a.block ∧ a.block ≠ ab ∧ a.block < w.heap.size
theorem LstAt.gb {w0 w w' : World} {F F' S : Nat → Prop} {ab : Nat} {A : Option Addr} {l : List Ent} (h : LstAt w0 w F ab A l) (x : Ext w0 w') (g : GB w w' S) (hS : ∀ i, S i → F i ∨ i = ab ∨ w.heap.size ≤ i) (hF : ∀ i, F' i → F i ∨ w.heap.size ≤ i) : LstAt w0 w' F' ab A l := by
  obtain ⟨ks, h1, h2, h3⟩ := h
  refine ⟨ks, EntRd.of h1.1 (g.rd h1.2.1 (fun p hp e => ?_)) (fun p hp => ⟨(h1.keys p hp).1, (h2 p hp).ext x⟩), h2, fun a ha => ⟨fun e => ?_, (h3 a ha).2.1, Nat.lt_of_lt_of_le (h3 a ha).2.2 g.size⟩⟩
  · obtain ⟨k1, k2, k3⟩ := h3 p hp
    rcases hS _ e with e | e | e
    · exact k1 e
    · exact k2 e
    · omega
  · obtain ⟨k1, k2, k3⟩ := h3 a ha
    rcases hF _ e with e | e
    · exact k1 e
    · omega
/-- what ShardAtOnce keeps from round to round -/
def OnceAt (w0 : World) (gx ab k : Nat) (v : Value) (w : World) : Prop := ∃ F s A n c, v = .slice A n c ∧ s.lst.length = n ∧ ShIn w0 F gx (1 + k) s w ∧ ¬ F ab ∧ w0.heap.size ≤ ab ∧ n ≤ k ∧ CallsAt w0 w ab s ∧ LstAt w0 w F ab A s.lst
end Go.Proofs.Ytlgggeeflomelaa
