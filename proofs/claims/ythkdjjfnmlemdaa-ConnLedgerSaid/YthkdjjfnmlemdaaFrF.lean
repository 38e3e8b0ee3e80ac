/- Frames: a list onto a list; a cut out of the middle. -/
import Derived.Test.YthkdjjfnmlemdaaFrAwake
import Derived.Test.YthkdjjfnmlemdaaFrP2
namespace Go.Proofs.Ythkdjjfnmlemdaa
open Go.RowKit

/-- a cut from k to h, wherever it stands -/
theorem slice_mid_any {P : Program} {t e : TypeId} (ht : P.underlying t = some (.slice e)) (hz : ∀ u : World, (sizeOf e).run P u = .ok 1 u) {A : Option Addr} {n c m d : Nat} (k h : Nat) {ki hi : Int} (hki : ki = (k : Int)) (hhi : hi = (h : Int)) (hhn : h ≤ n) (hnc : n ≤ c) (hm : h = m + k) (hd : c = d + k) :
    ∃ A' : Option Addr, (∀ u : World, (Instr.slice t (.slice A n c) (some (.int .i64 ki)) (some (.int .i64 hi)) none).run P u = .ok (.slice A' m d) u) ∧
      (∀ (w : World) (vs : List Value), vs.length = n → Rd w A vs → Rd w A' ((vs.drop k).take m)) := by
  subst hki hhi
  have he : P.elem t = e := by simp [Program.elem, ht]
  refine ⟨if c = k then A else A.map (·.add k), fun u => ?_, fun w vs hl hr hne => ?_⟩
  · rw [run_slice_lh (P := P) u t A n c (by rw [he]; exact ht) .i64 .i64 (k : Int) (h : Int) (by omega) (by omega) (by omega), he, hz]
    simp only [Result.andThen, sliced, Int.toNat_natCast, Nat.mul_one]
    congr 2 <;> omega
  · have hvn : vs ≠ [] := by rintro rfl; simp at hne
    obtain ⟨b, off, rfl, hc⟩ := hr hvn
    have hck : ¬ c = k := by
      intro h
      apply hne
      rw [List.drop_of_length_le (by omega)]
      simp
    rw [if_neg hck]
    refine ⟨b, off + k, by simp [Addr.add_lit], fun j u hu => ?_⟩
    rw [Nat.add_assoc]
    refine hc (k + j) u ?_
    rw [List.getElem?_take] at hu
    split at hu
    · rw [← hu, List.getElem?_drop]
    · cases hu

theorem feedR_any {al : List Nat} {w : World} {r : Nat} {e : Ending} {w' : World} (h : FeedR al w r e w') :
    ∃ S A n c, e = .returned (.tuple #[.slice A n c, .int .i64 (endF al)]) ∧ (parse al).1.length = n ∧ (w.heap.size ≤ S ∧ S ≤ w'.heap.size) ∧ PL w' S A n c (parse al).1 ∧ IsRdr w' r (leftF al) (parse al).2.2 (fun b => w.heap.size ≤ b ∧ b < S) ∧ w.grownBy w' (some r) := by
  obtain ⟨S, A, n, c, h1, h2, h3, h4, h5⟩ := h
  refine ⟨S, A, n, c, ?_, h2.1, h1, h2, ?_, h3⟩
  · unfold endF
    by_cases hb : (parse al).2.2 = true
    · rw [if_pos hb]; exact (h4 hb).1
    · rw [if_neg hb]; exact (h5 (by simpa using hb)).1
  · unfold leftF
    by_cases hb : (parse al).2.2 = true
    · rw [if_pos hb, hb]; exact (h4 hb).2
    · rw [if_neg hb, show (parse al).2.2 = false by simpa using hb]; exact (h5 (by simpa using hb)).2

/-- a list of payloads more -/
theorem PLv.app {w : World} {base lim S : Nat} {A A' : Option Addr} {n c n' c' : Nat} {pss qss : List (List Nat)} {vs : List Value} (h : PLv w base lim A n c pss vs) (h' : PL w S A' n' c' qss) (hlim : lim ≤ S) (hbase : base ≤ lim) (hlw : lim ≤ w.heap.size) :
    ∃ vs', vs'.length = n' ∧ Rd w A' vs' ∧ (∀ u ∈ vs', u.oneCell' = true) ∧
      ∀ (w2 : World) (B' : Option Addr) (cb' : Nat), w2.ownsRow base 28 1 (.slice B' (n + n') cb') (n + n') (vs ++ vs') → w.grownBy w2 (Value.slice A n c).ownBlock → PL w2 base B' (n + n') cb' (pss ++ qss) := by
  obtain ⟨hl, gs, h1, h2, h3, h4, h5⟩ := h
  obtain ⟨hl', vs', gs', k1, k2, k3, k4, k5⟩ := h'
  have hvl : vs.length = n := by have := h1.1; omega
  have hvl' : vs'.length = n' := by have := k1.1; omega
  have hge : ∀ b ∈ gs', S ≤ b := by
    intro b hb
    obtain ⟨i, hi⟩ := List.getElem?_of_mem hb
    have hin : i < qss.length := by have := (List.getElem?_eq_some_iff.1 hi).1; omega
    obtain ⟨g, ci, q1, _, q3⟩ := k5 i _ (List.getElem?_eq_getElem hin)
    rw [hi] at q1
    injection q1 with q1
    subst q1
    exact own_ge q3 b rfl
  refine ⟨vs', hvl', Rd.of_own k1, fun u hu => ?_, fun w2 B' cb' ho hg => ?_⟩
  · obtain ⟨i, hi⟩ := List.getElem?_of_mem hu
    have hin : i < qss.length := by have := (List.getElem?_eq_some_iff.1 hi).1; omega
    obtain ⟨g, ci, _, q2, _⟩ := k5 i _ (List.getElem?_eq_getElem hin)
    rw [hi] at q2
    injection q2 with q2
    subst q2
    rfl
  · refine ⟨by simp [hl, hl'], vs ++ vs', gs ++ gs', ho, by simp [h2, k2], ?_, ?_, ?_⟩
    · rw [List.pairwise_append]
      exact ⟨h3, k3, fun a ha b hb => by have := h4 a ha; have := hge b hb; omega⟩
    · intro a ha
      rcases List.mem_append.1 ha with ha | ha
      · have := h4 a ha; have := hg.size; omega
      · have := k4 a ha; have := hg.size; omega
    · intro i qs hi
      by_cases hin : i < pss.length
      · rw [List.getElem?_append_left hin] at hi
        obtain ⟨g', ci, q1, q2, q3⟩ := h5 i qs hi
        exact ⟨g', ci, by rw [List.getElem?_append_left (by omega)]; exact q1, by rw [List.getElem?_append_left (by omega)]; exact q2, q3.kept hg (own_types q3 h1 (by decide))⟩
      · rw [List.getElem?_append_right (by omega)] at hi
        obtain ⟨g', ci, q1, q2, q3⟩ := k5 _ qs hi
        exact ⟨g', ci, by rw [List.getElem?_append_right (by omega), h2, ← hl]; exact q1, by rw [List.getElem?_append_right (by omega), hvl, ← hl]; exact q2, own_base (q3.kept hg (own_types q3 h1 (by decide))) (by omega)⟩
theorem IsRdr.gb {w w' : World} {r : Nat} {ws : List Nat} {cl : Bool} {S M : Nat → Prop} (h : IsRdr w r ws cl S) (g : GB w w' M) (hr : ¬ M r) (hs : ∀ b, S b → ¬ M b) : IsRdr w' r ws cl S := by
  obtain ⟨A, n, c, h1, h2, h3, h4, h5⟩ := h
  exact ⟨A, n, c, g.blk h1 hr, h2, h3, g.rd h4 (fun p hp => hs _ (h5 p hp)), h5⟩
end Go.Proofs.Ythkdjjfnmlemdaa
