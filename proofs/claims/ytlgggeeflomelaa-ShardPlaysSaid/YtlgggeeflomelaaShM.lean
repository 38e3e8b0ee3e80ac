/- law 14: a pick in memory; the version in plain Lean. -/
import Derived.Test.YtlgggeeflomelaaShL
import Derived.Test.YtlgggeeflomelaaFrame
namespace Go.Proofs.Ytlgggeeflomelaa
open Go.RowKit

/-- a pick's cells -/
theorem pick_cells {w : World} {A : Option Addr} {R : List PickR} (h : Rd w A (R.flatMap pickVals)) {k : Nat} {r : PickR} (hr : R[k]? = some r) :
    ∃ b off, A = some ⟨b, off, none⟩ ∧ w.cell? ⟨b, off + k * 4, none⟩ = some (.int .i64 r.who) ∧ w.cell? ⟨b, off + k * 4 + 1, none⟩ = some (.int .u8 (r.op : Int)) ∧ w.cell? ⟨b, off + k * 4 + 2, none⟩ = some (.slice r.K r.key.length r.cap) ∧ w.cell? ⟨b, off + k * 4 + 3, none⟩ = some (.int .i64 r.val) := by
  have hg : ∀ j, j < 4 → (R.flatMap pickVals)[k * 4 + j]? = (pickVals r)[j]? := fun j hj => by
    have : ∀ (L : List PickR) (k : Nat), L[k]? = some r → (L.flatMap pickVals)[k * 4 + j]? = (pickVals r)[j]? := fun L => by
      induction L with
      | nil => intro k h; simp at h
      | cons x L ih =>
        intro k h
        rw [List.flatMap_cons]
        cases k with
        | zero =>
          simp at h
          subst h
          rw [List.getElem?_append_left (by show 0 * 4 + j < 4; omega), Nat.zero_mul, Nat.zero_add]
        | succ k =>
          rw [List.getElem?_append_right (by show 4 ≤ (k + 1) * 4 + j; omega), show (k + 1) * 4 + j - (pickVals x).length = k * 4 + j by show (k + 1) * 4 + j - 4 = _; omega]
          exact ih k (by simpa using h)
    exact this R k hr
  have hne : R.flatMap pickVals ≠ [] := fun e => by
    have h0 := hg 0 (by omega)
    rw [e] at h0
    simp [pickVals] at h0
  obtain ⟨b, off, hA, hc⟩ := h hne
  refine ⟨b, off, hA, ?_, ?_, ?_, ?_⟩
  · have := hc (k * 4 + 0) _ (hg 0 (by omega)); exact this
  · have := hc (k * 4 + 1) _ (hg 1 (by omega)); rw [← Nat.add_assoc] at this; exact this
  · have := hc (k * 4 + 2) _ (hg 2 (by omega)); rw [← Nat.add_assoc] at this; exact this
  · have := hc (k * 4 + 3) _ (hg 3 (by omega)); rw [← Nat.add_assoc] at this; exact this
def callOp : SCall → Nat
  | .idle => 0
  | .begun op _ _ => op
  | .swap op _ _ _ _ _ => op
def upP (p : SSt × SRes) (o : Nat) : Nat := if p.2.done = true ∧ p.2.err = 0 ∧ o ≠ 1 then 1 else 0
def upOf (s : SSt) (who : Nat) : Nat := upP (sStep s who) (callOp (s.call who))
theorem upP_no {s' : SSt} {r : SRes} {o : Nat} (h : ¬ (r.done = true ∧ r.err = 0 ∧ o ≠ 1)) : upP (s', r) o = 0 := if_neg h
theorem sver_law {s : SSt} {who : Nat} (h : SInv s) : (sStep s who).1.ver = s.ver + upOf s who := by
  have hc := h.2.2 who
  unfold upOf sStep
  cases he : s.call who with
  | idle => dsimp only; rw [upP_no (by simp)]; rfl
  | begun op key val =>
    dsimp only
    by_cases h1 : op = 1
    · rw [if_pos h1]
      split
      · rw [upP_no (by simp [callOp, h1])]; rfl
      · rw [upP_no (by simp)]; rfl
    · rw [if_neg h1]
      by_cases h2 : (madeE op key val s.lst).2.2 ≠ 0
      · rw [if_pos h2, upP_no (fun h => h2 h.2.1)]; rfl
      · rw [if_neg h2, upP_no (by simp)]; rfl
  | swap op key val v m n =>
    rw [he] at hc
    dsimp only
    by_cases h1 : s.ver = v
    · rw [if_pos h1]
      unfold upP
      rw [if_pos ⟨rfl, rfl, hc.2.1⟩, h1]
    · rw [if_neg h1, upP_no (by simp)]
      rfl
theorem sother {s : SSt} {who j : Nat} (h : j ≠ who) : (sStep s who).1.call j = s.call j := by
  unfold sStep
  split
  · rfl
  · split
    · split <;> exact sput_other s _ h
    · split <;> exact sput_other s _ h
  · split
    · exact updS_other _ _ h
    · exact sput_other s _ h
theorem sop_law {s : SSt} {who : Nat} : (sStep s who).1.call who = .idle ∨ callOp ((sStep s who).1.call who) = callOp (s.call who) := by
  unfold sStep
  cases he : s.call who with
  | idle => exact .inl he
  | begun op key val =>
    dsimp only
    split
    · split <;> exact .inl (sput_self _ _ _)
    · split
      · exact .inl (sput_self _ _ _)
      · exact .inr (by dsimp only; rw [sput_self]; rfl)
  | swap op key val v m n =>
    dsimp only
    split
    · exact .inl (updS_self _ _ _)
    · exact .inr (by dsimp only; rw [sput_self]; rfl)
def OpsOk (s : SSt) (l : List Nat) : Prop := l.length = 4 ∧ ∀ d, d < 4 → s.call d ≠ .idle → l[d]? = some (callOp (s.call d))
theorem ops_step {s : SSt} {l : List Nat} {who : Nat} (h : OpsOk s l) : OpsOk (sStep s who).1 l := ⟨h.1, fun d hd hi => by
  by_cases e : d = who
  · subst e
    rcases sop_law (s := s) (who := d) with h1 | h1
    · exact absurd h1 hi
    · rw [h1]
      refine h.2 d hd (fun h0 => hi ?_)
      unfold sStep
      rw [h0]
      exact h0
  · rw [sother e] at hi ⊢
    exact h.2 d hd hi⟩
theorem ops_start {s : SSt} {l : List Nat} {who op : Nat} {key : List Nat} {val : Int} (h : OpsOk s l) (hw : who < 4) : OpsOk (s.put who (.begun op key val)) (l.set who op) := ⟨by rw [List.length_set]; exact h.1, fun d hd hi => by
  by_cases e : d = who
  · subst e
    rw [sput_self, List.getElem?_set_self (by rw [h.1]; exact hd)]
    rfl
  · rw [sput_other s _ e] at hi ⊢
    rw [List.getElem?_set_ne (fun h => e h.symm)]
    exact h.2 d hd hi⟩
theorem ops_new : OpsOk sInit [0, 0, 0, 0] := ⟨rfl, fun _ _ h => absurd rfl h⟩
/-- what ShardVersions keeps from round to round -/
def VersAt (w0 : World) (gx ab k : Nat) (w : World) : Prop := ∃ F s l, ShIn w0 F gx (1 + k) s w ∧ ¬ F ab ∧ w0.heap.size ≤ ab ∧ w.heap[ab]? = some (.cells (vals .u8 l).toArray 40 (0, 0)) ∧ OpsOk s l
end Go.Proofs.Ytlgggeeflomelaa
