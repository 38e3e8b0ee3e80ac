/- epoch beside the document's: Step. -/
import Derived.Test.YtlgggeeflomelaaDcN
namespace Go.Proofs.Ytlgggeeflomelaa
open Go.RowKit

/-- side by side, and X is none of theirs -/
def PlaysX (w0 : World) (gx gk n k : Nat) (X : Nat → Prop) (w : World) : Prop :=
  ∃ F G s d, EpIn w0 F gx n k s w ∧ DAt w G gk n d ∧ RelE s d ∧ DBd k d ∧ (∀ i, F i → ¬ G i) ∧ (∀ i, G i → w0.heap.size ≤ i) ∧ ∀ i, X i → ¬ F i ∧ ¬ G i
theorem PlaysX.plays {w0 w : World} {gx gk n k : Nat} {X : Nat → Prop} (h : PlaysX w0 gx gk n k X w) : PlaysE w0 gx gk n k w := by
  obtain ⟨F, G, s, d, h1, h2, h3, h4, h5, h6, _⟩ := h
  exact ⟨F, G, s, d, h1, h2, h3, h4, h5, h6⟩
theorem PlaysE.x {w0 w : World} {gx gk n k : Nat} {X : Nat → Prop} (h : PlaysE w0 gx gk n k w) (hx : ∀ i, X i → w.heap.size ≤ i) : PlaysX w0 gx gk n k X w := by
  obtain ⟨F, G, s, d, h1, h2, h3, h4, h5, h6⟩ := h
  exact ⟨F, G, s, d, h1, h2, h3, h4, h5, h6, fun i hi => ⟨fun hf => by have := h1.lt i hf; have := hx i hi; omega, fun hg => by have := h2.lt i hg; have := hx i hi; omega⟩⟩
theorem PlaysX.far {w0 w w' : World} {gx gk n k : Nat} {X : Nat → Prop} (h : PlaysX w0 gx gk n k X w) (g : GB w w' X) (hx : ∀ i, X i → w0.heap.size ≤ i) : PlaysX w0 gx gk n k X w' := by
  obtain ⟨F, G, s, d, h1, h2, h3, h4, h5, h6, h7⟩ := h
  exact ⟨F, G, s, d, h1.gb g (fun i hi hX => (h7 i hX).1 hi) hx, h2.gb g (fun i hi hX => (h7 i hX).2 hi), h3, h4, h5, h6, h7⟩
theorem PlaysX.ext {w0 w w' : World} {gx gk n k : Nat} {X : Nat → Prop} (h : PlaysX w0 gx gk n k X w) (x : Ext w w') : PlaysX w0 gx gk n k X w' := by
  obtain ⟨F, G, s, d, h1, h2, h3⟩ := h
  exact ⟨F, G, s, d, h1.ext x, h2.ext x, h3⟩
theorem PlaysX.out {w0 w : World} {gx gk n k : Nat} {X : Nat → Prop} (h : PlaysX w0 gx gk n k X w) : Ext w0 w := h.plays.out
/-- Step, and the document's behind it -/
def StepBoth (w0 : World) (gx gk n k N : Nat) (who : Int) (W : World) : Prop :=
  Calls Try.prog 18 #[.pointer (some ⟨gx, 0, none⟩), .int .i64 who] W fun e w1 => ∃ (done : Bool) (er nu : Int) (xs : List Int) (A : Option Addr) (m q : Nat) (last : Int), e = .returned (.tuple #[.agg #[.bool done, .int .i64 er, .int .i64 nu, .slice A m q], .int .i64 last]) ∧
    GB W w1 (· < N) ∧ w1.ownsRow W.heap.size 3 1 (.slice A m q) m (ivals xs) ∧
    ∀ u, Ext w1 u → Calls Try.prog 25 #[.pointer (some ⟨gk + 1, 0, none⟩), .int .i64 who] u fun e w2 => ∃ (A' : Option Addr) (q' : Nat), e = .returned (.tuple #[.agg #[.bool done, .int .i64 er, .int .i64 nu, .slice A' m q'], .int .i64 last]) ∧
      GB u w2 (· < N) ∧ w2.ownsRow u.heap.size 3 1 (.slice A' m q') m (ivals xs) ∧ PlaysX w0 gx gk n (k + 1) (fun i => (Value.slice A m q).ownBlock = some i) w2
theorem own_len_iv {w : World} {base : Nat} {A : Option Addr} {m c : Nat} {xs : List Int} (h : w.ownsRow base 3 1 (.slice A m c) m (ivals xs)) : xs.length = m := by have := h.1; rw [ivals_len] at this; omega
theorem nil_no (i : Nat) : ¬ (Value.slice none 0 0).ownBlock = some i := fun e => by cases e
theorem plays_step (w0 wr W : World) (gx gk n k : Nat) (who : Int) (h : PlaysE w0 gx gk n k wr) (x : Ext wr W) (hk : k ≤ 100000) : StepBoth w0 gx gk n k wr.heap.size who W := by
  obtain ⟨F, G, s, d, h1, h2, h3, h4, h5, h6⟩ := h
  have hI := h1.inv.1
  have hn := h1.inv.2.2.2
  by_cases hb : 0 ≤ who ∧ who < (n : Int)
  · obtain ⟨v, rfl⟩ : ∃ v : Nat, who = (v : Int) := ⟨who.toNat, by omega⟩
    have hv : v < n := by omega
    by_cases hs : (s.wk v).call = .idle
    · refine (ein_idle w0 W F gx n k v s (h1.ext x) hv hs).mono ?_
      rintro e w1 ⟨rfl, x1⟩
      refine ⟨false, 0, 0, [], none, 0, 0, 7, rfl, GB.of_ext _ x1, World.ownsRow_nil _ _ _ _, fun u xu => ?_⟩
      refine (dstep_idle u G gk n v d ((h2.ext (x.trans x1)).ext xu) hv ((rel_idle h3 hI hv).1 hs)).mono ?_
      rintro e w2 ⟨A', m', q', G', rfl, y1, y2, y3, y4, y5, y6⟩
      have hm := own_len_iv y5
      subst hm
      have hi := ((h1.ext (x.trans x1)).ext xu).gb y2 h5 h6
      refine ⟨A', q', rfl, y2.more (fun i _ hi => h2.lt i hi), y5, F, G', s, d, hi.more (Nat.le_succ k), y1, h3, dbd_more h4, fun i hi hg => (y4 i hg).elim (h5 i hi) (fun hg => by have := ((h1.ext (x.trans x1)).ext xu).lt i hi; omega), fun i hg => (y4 i hg).elim (h6 i) (fun hg => Nat.le_trans ((h1.ext (x.trans x1)).ext xu).out.size hg), fun i e => absurd e (nil_no i)⟩
    · obtain ⟨hrel, hres⟩ := rel_step h3 hI hv hs
      obtain ⟨hop, hpl⟩ := rel_op h3 hI hv hs
      refine (ein_step w0 W F gx n k v s (h1.ext x) hv hs hk).mono ?_
      rintro e w1 ⟨A, m, q, F', rfl, g1, g2, g3, g4, g5⟩
      refine ⟨_, _, _, _, A, m, q, _, rfl, g2.more (fun i _ hi => h1.lt i hi), g4, fun u xu => ?_⟩
      have hd1 : DAt u G gk n d := ((h2.ext x).gb g2 (fun i hi hf => h5 i hf hi)).ext xu
      refine (dstep_any u G gk n v k d hd1 hv hn h4 hk hop hpl).mono ?_
      rw [hres] at g4 ⊢
      rintro e w2 ⟨A', m', q', G', rfl, y1, y2, y3, y4, y5, y6⟩
      have hm : m' = m := (own_len_iv y5).symm.trans (own_len_iv g4)
      subst hm
      have hF'G : ∀ i, F' i → ¬ G i := fun i hi hg => (g3 i hi).elim (fun h => h5 i h hg) (fun h => by have := (h2.ext x).lt i hg; omega)
      have hi := (g1.ext xu).gb y2 hF'G h6
      have hlt1 := g1.lt
      have hx1 := xu.size
      refine ⟨A', q', rfl, y2.more (fun i _ hi => h2.lt i hi), y5, F', G', _, _, hi, y1, hrel, dbd_step h4, fun i hi hg => (y4 i hg).elim (hF'G i hi) (fun hg => by have := hlt1 i hi; omega), fun i hg => (y4 i hg).elim (h6 i) (fun hg => Nat.le_trans (g1.ext xu).out.size hg), fun i e => ⟨g5 i e, fun hg => ?_⟩⟩
      have hq := g4.lt i e
      rcases y4 i hg with hg | hg
      · have := (h2.ext x).lt i hg; omega
      · omega
  · refine (ein_step_bad w0 W F gx n k who s (h1.ext x) hb).mono ?_
    rintro e w1 ⟨rfl, x1⟩
    refine ⟨false, 0, 0, [], none, 0, 0, 1, rfl, GB.of_ext _ x1, World.ownsRow_nil _ _ _ _, fun u xu => ?_⟩
    refine (dstep_bad u G gk n who d ((h2.ext (x.trans x1)).ext xu) hb).mono ?_
    rintro e w2 ⟨A', m', q', G', rfl, y1, y2, y3, y4, y5, y6⟩
    have hm := own_len_iv y5
    subst hm
    have hi := ((h1.ext (x.trans x1)).ext xu).gb y2 h5 h6
    refine ⟨A', q', rfl, y2.more (fun i _ hi => h2.lt i hi), y5, F, G', s, d, hi.more (Nat.le_succ k), y1, h3, dbd_more h4, fun i hi hg => (y4 i hg).elim (h5 i hi) (fun hg => by have := ((h1.ext (x.trans x1)).ext xu).lt i hi; omega), fun i hg => (y4 i hg).elim (h6 i) (fun hg => Nat.le_trans ((h1.ext (x.trans x1)).ext xu).out.size hg), fun i e => absurd e (nil_no i)⟩
theorem plays_new {w0 w1 w : World} {F G : Nat → Prop} {gx gk n : Nat} (h1 : EpIn w0 F gx n 0 eInit w1) (x : Ext w1 w) (h2 : DAt w G gk n dInit) (hG : ∀ i, G i → w1.heap.size ≤ i) : PlaysE w0 gx gk n 0 w := by
  refine ⟨F, G, eInit, dInit, h1.ext x, h2, ⟨rfl, fun w => ⟨rfl, rfl, rfl, rfl⟩⟩, ⟨Nat.le_refl _, fun w => ⟨Nat.le_refl _, Nat.le_refl _, Nat.le_refl _, fun t ht => by cases ht⟩⟩, fun i hi hg => by have := h1.lt i hi; have := hG i hg; omega, fun i hg => Nat.le_trans h1.out.size (hG i hg)⟩
end Go.Proofs.Ytlgggeeflomelaa
