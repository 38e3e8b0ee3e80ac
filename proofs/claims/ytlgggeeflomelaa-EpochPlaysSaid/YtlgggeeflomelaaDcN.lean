/- epoch beside the document's: Start, Step, and what is seen. -/
import Derived.Test.YtlgggeeflomelaaDcK
import Derived.Test.YtlgggeeflomelaaEpN
namespace Go.Proofs.Ytlgggeeflomelaa
open Go.RowKit

theorem rel_idle {s : ESt} {d : DSt} {n who : Nat} (h : RelE s d) (hI : EInv n s) (hw : who < n) : (s.wk who).call = .idle ↔ (d.wk who).op = 0 := by
  have g2 : ECallX n s (s.wk who) := (hI who hw).2.1
  obtain ⟨_, _, _, r4⟩ := h.2 who
  unfold ECallX at g2
  unfold RelC at r4
  cases hc : (s.wk who).call with
  | idle => rw [hc] at r4; exact ⟨fun _ => r4, fun _ => rfl⟩
  | begun op thing =>
    rw [hc] at r4 g2
    have := g2.1
    have := r4.1
    exact ⟨(fun h => by cases h), fun h => by omega⟩
  | pinS old e => rw [hc] at r4; have := r4.1; exact ⟨(fun h => by cases h), fun h => by omega⟩
  | pinL e => rw [hc] at r4; have := r4.1; exact ⟨(fun h => by cases h), fun h => by omega⟩
  | look i e => rw [hc] at r4; have := r4.1; exact ⟨(fun h => by cases h), fun h => by omega⟩
theorem rel_op {s : ESt} {d : DSt} {n who : Nat} (h : RelE s d) (hI : EInv n s) (hw : who < n) (hs : (s.wk who).call ≠ .idle) : ((d.wk who).op = 1 ∨ (d.wk who).op = 2 ∨ (d.wk who).op = 3 ∨ (d.wk who).op = 4 ∨ (d.wk who).op = 5) ∧ ((d.wk who).op = 4 → (d.wk who).place ≤ n + 1) := by
  have g2 : ECallX n s (s.wk who) := (hI who hw).2.1
  obtain ⟨_, _, _, r4⟩ := h.2 who
  unfold ECallX at g2
  unfold RelC at r4
  cases hc : (s.wk who).call with
  | idle => exact absurd hc hs
  | begun op thing =>
    rw [hc] at r4 g2
    obtain ⟨o1, o5, _⟩ := g2
    obtain ⟨k1, k2, _⟩ := r4
    exact ⟨by omega, fun _ => by omega⟩
  | pinS old e => rw [hc] at r4; have := r4.1; exact ⟨by omega, fun _ => by omega⟩
  | pinL e => rw [hc] at r4; have := r4.1; exact ⟨by omega, fun _ => by omega⟩
  | look i e =>
    rw [hc] at r4 g2
    obtain ⟨b1, _⟩ := g2
    obtain ⟨k1, k2, _⟩ := r4
    exact ⟨by omega, fun _ => by omega⟩
theorem startErr_eq {s : ESt} {d : DSt} {n who op k : Nat} (h : RelE s d) (hI : EInv n s) (hw : who < n) (hb : DBd k d) (hk : k ≤ 1000) : dstartErr d who op = startErr s who op := by
  obtain ⟨_, r2, r3, _⟩ := h.2 who
  have hl := (hb.2 who).2.2.1
  unfold dstartErr startErr
  rw [r2, r3]
  by_cases hi : (d.wk who).op = 0
  · have hq : ¬ isIdle (s.wk who).call = false := by rw [(idle_iff _).2 ((rel_idle h hI hw).2 hi)]; decide
    rw [if_neg (fun e : (d.wk who).op ≠ 0 => e hi), if_neg hq, if_neg (by omega : ¬ (op = 3 ∧ 4096 ≤ (d.wk who).held.length)), if_neg (by omega : ¬ (op = 3 ∧ (d.wk who).held.length = 4096))]
  · have hq : isIdle (s.wk who).call = false := by
      cases hc : isIdle (s.wk who).call with
      | false => rfl
      | true => exact absurd ((rel_idle h hI hw).1 ((idle_iff _).1 hc)) hi
    rw [if_pos hi, if_pos hq]
/-- ours and the document's, side by side -/
def PlaysE (w0 : World) (gx gk n k : Nat) (w : World) : Prop :=
  ∃ F G s d, EpIn w0 F gx n k s w ∧ DAt w G gk n d ∧ RelE s d ∧ DBd k d ∧ (∀ i, F i → ¬ G i) ∧ ∀ i, G i → w0.heap.size ≤ i
theorem PlaysE.ext {w0 w w' : World} {gx gk n k : Nat} (h : PlaysE w0 gx gk n k w) (x : Ext w w') : PlaysE w0 gx gk n k w' := by
  obtain ⟨F, G, s, d, h1, h2, h3⟩ := h
  exact ⟨F, G, s, d, h1.ext x, h2.ext x, h3⟩
theorem PlaysE.out {w0 w : World} {gx gk n k : Nat} (h : PlaysE w0 gx gk n k w) : Ext w0 w := by
  obtain ⟨F, G, s, d, h1, _⟩ := h
  exact h1.out
theorem dplay_new {w0 w u u' : World} {F F' G : Nat → Prop} {gx gk n k : Nat} {s' : ESt} {d' : DSt} (h1 : EpIn w0 F' gx n k s' u) (g : GB u u' G) (h2 : DAt u' G gk n d') (hr : RelE s' d') (hb : DBd k d') (hdis : ∀ i, F i → ¬ G i) (hG : ∀ i, G i → w0.heap.size ≤ i) (hlt : ∀ i, G i → i < w.heap.size) (hF' : ∀ i, F' i → F i ∨ w.heap.size ≤ i) : PlaysE w0 gx gk n k u' := by
  have hd : ∀ i, F' i → ¬ G i := fun i hi hg => (hF' i hi).elim (fun h => hdis i h hg) (fun h => by have := hlt i hg; omega)
  exact ⟨F', G, s', d', h1.gb g hd hG, h2, hr, hb, hd, hG⟩
/-- both calls, one behind the other, in either order, have one answer -/
def BothE (w0 : World) (gx gk n k N : Nat) (f1 f2 : FuncId) (a1 a2 : Array Value) (q : Int) (W : World) : Prop :=
  Calls Try.prog f1 a1 W fun e w1 => e = .returned (.int .i64 q) ∧ GB W w1 (· < N) ∧ ∀ u, Ext w1 u → Calls Try.prog f2 a2 u fun e w2 => e = .returned (.int .i64 q) ∧ GB u w2 (· < N) ∧ PlaysE w0 gx gk n k w2
theorem rel_start {s : ESt} {d : DSt} {who op : Nat} {thing : Int} (h : RelE s d) : RelE (s.put who { s.wk who with call := .begun op thing }) (d.put who { d.wk who with op := op, place := 0, thing := thing }) := by
  obtain ⟨r1, r2, r3, _⟩ := h.2 who
  exact rel_rec h ⟨r1, r2, r3, rfl, rfl, rfl⟩
theorem dbd_start {k who op : Nat} {thing : Int} {d : DSt} (h : DBd k d) : DBd k (d.put who { d.wk who with op := op, place := 0, thing := thing }) := by
  refine ⟨h.1, fun w => ?_⟩
  by_cases e : w = who
  · subst e
    rw [dput_self]
    obtain ⟨a, b, c, f⟩ := h.2 w
    exact ⟨Nat.zero_le _, b, c, f⟩
  · rw [dput_other d _ e]
    exact h.2 w
theorem plays_start (w0 wr W : World) (gx gk n k : Nat) (who thing : Int) (op : Nat) (h : PlaysE w0 gx gk n k wr) (x : Ext wr W) (hop : op < 256) (hk : k ≤ 1000) :
    ∃ q, BothE w0 gx gk n k wr.heap.size 16 24 #[.pointer (some ⟨gx, 0, none⟩), .int .i64 who, .int .u8 (op : Int), .int .i64 thing] #[.pointer (some ⟨gk + 1, 0, none⟩), .int .i64 who, .int .u8 (op : Int), .int .i64 thing] q W ∧
      BothE w0 gx gk n k wr.heap.size 24 16 #[.pointer (some ⟨gk + 1, 0, none⟩), .int .i64 who, .int .u8 (op : Int), .int .i64 thing] #[.pointer (some ⟨gx, 0, none⟩), .int .i64 who, .int .u8 (op : Int), .int .i64 thing] q W := by
  have hW := h.ext x
  obtain ⟨F, G, s, d, h1, h2, h3, h4, h5, h6⟩ := h
  have hI := h1.inv.1
  by_cases hb : (0 ≤ who ∧ who < (n : Int)) ∧ 1 ≤ op ∧ op ≤ 5
  · obtain ⟨hb, ho1, ho5⟩ := hb
    obtain ⟨v, rfl⟩ : ∃ v : Nat, who = (v : Int) := ⟨who.toNat, by omega⟩
    have hv : v < n := by omega
    have hse := startErr_eq (op := op) h3 hI hv h4 hk
    by_cases he : startErr s v op = 0
    · have hst : startSt s v op thing = s.put v { s.wk v with call := .begun op thing } := by unfold startSt; rw [if_pos he]
      refine ⟨0, (ein_start w0 W F gx n k v op thing s (h1.ext x) hv ho1 ho5).mono ?_, (dstart_ok W G gk n v op thing d (h2.ext x) hv ho1 ho5 (hse.trans he)).mono ?_⟩
      · rintro e w1 ⟨rfl, F', g1, g2, g3⟩
        rw [hst] at g1
        refine ⟨by rw [he], g2.more (fun i _ hi => h1.lt i hi), fun u xu => ?_⟩
        have hd1 : DAt w1 G gk n d := (h2.ext x).gb g2 (fun i hi hf => h5 i hf hi)
        refine (dstart_ok u G gk n v op thing d (hd1.ext xu) hv ho1 ho5 (hse.trans he)).mono ?_
        rintro e w2 ⟨rfl, y1, y2⟩
        exact ⟨rfl, y2.more (fun i _ hi => h2.lt i hi), dplay_new (w := W) (F := F) (g1.ext xu) y2 y1 (rel_start h3) (dbd_start h4) h5 h6 (fun i hi => Nat.lt_of_lt_of_le (h2.lt i hi) x.size) g3⟩
      · rintro e w1 ⟨rfl, y1, y2⟩
        refine ⟨rfl, y2.more (fun i _ hi => h2.lt i hi), fun u xu => ?_⟩
        have hi1 := ((h1.ext x).gb y2 h5 h6).ext xu
        refine (ein_start w0 u F gx n k v op thing s hi1 hv ho1 ho5).mono ?_
        rintro e w2 ⟨rfl, F', g1, g2, g3⟩
        rw [hst] at g1
        have hsz : ∀ i, G i → i < u.heap.size := fun i hi => Nat.lt_of_lt_of_le (y1.lt i hi) xu.size
        exact ⟨by rw [he], g2.more (fun i _ hi => h1.lt i hi), F', G, _, _, g1, (y1.ext xu).gb g2 (fun i hi hf => h5 i hf hi), rel_start h3, dbd_start h4, fun i hi hg => (g3 i hi).elim (fun h => h5 i h hg) (fun h => by have := hsz i hg; omega), h6⟩
    · have hst : startSt s v op thing = s := by unfold startSt; rw [if_neg he]
      have he2 : dstartErr d v op ≠ 0 := fun e => he (hse.symm.trans e)
      refine ⟨startErr s v op, (ein_start w0 W F gx n k v op thing s (h1.ext x) hv ho1 ho5).mono ?_, (dstart_err W G gk n v op thing d (h2.ext x) hv ho1 ho5 he2).mono ?_⟩
      · rintro e w1 ⟨rfl, F', g1, g2, g3⟩
        rw [hst] at g1
        refine ⟨rfl, g2.more (fun i _ hi => h1.lt i hi), fun u xu => ?_⟩
        have hd1 : DAt w1 G gk n d := (h2.ext x).gb g2 (fun i hi hf => h5 i hf hi)
        refine (dstart_err u G gk n v op thing d (hd1.ext xu) hv ho1 ho5 he2).mono ?_
        rintro e w2 ⟨rfl, rfl⟩
        exact ⟨by rw [hse], GB.refl _ _, dplay_new (w := W) (F := F) (g1.ext xu) (GB.refl _ _) (hd1.ext xu) h3 h4 h5 h6 (fun i hi => Nat.lt_of_lt_of_le (h2.lt i hi) x.size) g3⟩
      · rintro e w1 ⟨rfl, rfl⟩
        refine ⟨by rw [hse], GB.refl _ _, fun u xu => ?_⟩
        refine (ein_start w0 u F gx n k v op thing s ((h1.ext x).ext xu) hv ho1 ho5).mono ?_
        rintro e w2 ⟨rfl, F', g1, g2, g3⟩
        rw [hst] at g1
        have hsz : ∀ i, G i → i < u.heap.size := fun i hi => Nat.lt_of_lt_of_le ((h2.ext x).lt i hi) xu.size
        exact ⟨rfl, g2.more (fun i _ hi => h1.lt i hi), F', G, _, _, g1, ((h2.ext x).ext xu).gb g2 (fun i hi hf => h5 i hf hi), h3, h4, fun i hi hg => (g3 i hi).elim (fun h => h5 i h hg) (fun h => by have := hsz i hg; omega), h6⟩
  · have hb' : ¬ (0 ≤ who ∧ who < (n : Int)) ∨ op = 0 ∨ 5 < op := by omega
    refine ⟨1, (ein_start_bad w0 W F gx n k op who thing s (h1.ext x) hop hb').mono ?_, (dstart_arg W gk n who thing op (h2.ext x).x1 hop hb').mono ?_⟩
    · rintro e w1 ⟨rfl, rfl⟩
      refine ⟨rfl, GB.refl _ _, fun u xu => (dstart_arg u gk n who thing op ((h2.ext x).ext xu).x1 hop hb').mono ?_⟩
      rintro e w2 ⟨rfl, rfl⟩
      exact ⟨rfl, GB.refl _ _, hW.ext xu⟩
    · rintro e w1 ⟨rfl, rfl⟩
      refine ⟨rfl, GB.refl _ _, fun u xu => (ein_start_bad w0 u F gx n k op who thing s ((h1.ext x).ext xu) hop hb').mono ?_⟩
      rintro e w2 ⟨rfl, rfl⟩
      exact ⟨rfl, GB.refl _ _, hW.ext xu⟩
theorem plays_pend (w0 wr : World) (gx gk n k : Nat) (who : Int) (h : PlaysE w0 gx gk n k wr) :
    ∃ b, ∀ u, Ext wr u → (Calls Try.prog 19 #[.pointer (some ⟨gx, 0, none⟩), .int .i64 who] u fun e w' => e = .returned (.bool b) ∧ u = w') ∧ Calls Try.prog 27 #[.pointer (some ⟨gk + 1, 0, none⟩), .int .i64 who] u fun e w' => e = .returned (.bool b) ∧ u = w' := by
  obtain ⟨F, G, s, d, h1, h2, h3, h4, h5, h6⟩ := h
  by_cases hb : 0 ≤ who ∧ who < (n : Int)
  · obtain ⟨v, rfl⟩ : ∃ v : Nat, who = (v : Int) := ⟨who.toNat, by omega⟩
    have hv : v < n := by omega
    refine ⟨!isIdle (s.wk v).call, fun u x => ⟨ein_pend w0 u F gx n k v s (h1.ext x) hv, dpend_any u G gk n v d (h2.ext x) hv _ ?_⟩⟩
    have hi := rel_idle h3 h1.inv.1 hv
    cases hc : isIdle (s.wk v).call with
    | true => exact .inr ⟨rfl, hi.1 ((idle_iff _).1 hc)⟩
    | false => exact .inl ⟨rfl, fun e => by rw [(idle_iff _).2 (hi.2 e)] at hc; cases hc⟩
  · obtain ⟨C, gm, L, e1, _⟩ := h1
    refine ⟨false, fun u x => ⟨?_, dpend_bad u gk n who (h2.ext x).x1 hb⟩⟩
    obtain ⟨gw, x1⟩ := (e1.ext x).x1
    exact epend_bad u gx n gw who x1 hb
theorem plays_pinned (w0 wr : World) (gx gk n k : Nat) (who : Int) (h : PlaysE w0 gx gk n k wr) :
    ∃ b, ∀ u, Ext wr u → (Calls Try.prog 15 #[.pointer (some ⟨gx, 0, none⟩), .int .i64 who] u fun e w' => e = .returned (.bool b) ∧ u = w') ∧ Calls Try.prog 28 #[.pointer (some ⟨gk + 1, 0, none⟩), .int .i64 who] u fun e w' => e = .returned (.bool b) ∧ u = w' := by
  obtain ⟨F, G, s, d, h1, h2, h3, h4, h5, h6⟩ := h
  by_cases hb : 0 ≤ who ∧ who < (n : Int)
  · obtain ⟨v, rfl⟩ : ∃ v : Nat, who = (v : Int) := ⟨who.toNat, by omega⟩
    have hv : v < n := by omega
    refine ⟨(s.wk v).pinned, fun u x => ⟨ein_pinned w0 u F gx n k v s (h1.ext x) hv, ?_⟩⟩
    rw [(h3.2 v).2.1]
    exact dpinned_any u G gk n v d (h2.ext x) hv
  · obtain ⟨C, gm, L, e1, _⟩ := h1
    refine ⟨false, fun u x => ⟨?_, dpinned_bad u gk n who (h2.ext x).x1 hb⟩⟩
    obtain ⟨gw, x1⟩ := (e1.ext x).x1
    exact epinned_bad u gx n gw who x1 hb
theorem plays_epoch (w0 wr : World) (gx gk n k : Nat) (h : PlaysE w0 gx gk n k wr) (hk : k ≤ 1000000) :
    ∃ q : Nat, ∀ u, Ext wr u → (Calls Try.prog 17 #[.pointer (some ⟨gx, 0, none⟩)] u fun e w' => e = .returned (.int .i64 (q : Int)) ∧ u = w') ∧ Calls Try.prog 29 #[.pointer (some ⟨gk + 1, 0, none⟩)] u fun e w' => e = .returned (.int .i64 (q : Int)) ∧ u = w' := by
  obtain ⟨F, G, s, d, h1, h2, h3, h4, h5, h6⟩ := h
  refine ⟨s.ep, fun u x => ⟨ein_epoch w0 u F gx n k s (h1.ext x) hk, ?_⟩⟩
  rw [h3.1]
  exact depoch_any u G gk n d (h2.ext x)
theorem plays_held (w0 wr : World) (gx gk n k : Nat) (who : Int) (h : PlaysE w0 gx gk n k wr) (hk : k ≤ 1000000) :
    ∃ xs : List Int, xs.length ≤ 1000000 ∧ ∀ u, Ext wr u → Calls Try.prog 22 #[.pointer (some ⟨gx, 0, none⟩), .int .i64 who] u (RetN xs u) ∧ Calls Try.prog 30 #[.pointer (some ⟨gk + 1, 0, none⟩), .int .i64 who] u (RetN xs u) := by
  obtain ⟨F, G, s, d, h1, h2, h3, h4, h5, h6⟩ := h
  by_cases hb : 0 ≤ who ∧ who < (n : Int)
  · obtain ⟨v, rfl⟩ : ∃ v : Nat, who = (v : Int) := ⟨who.toNat, by omega⟩
    have hv : v < n := by omega
    have hl := (h4.2 v).2.2.1
    refine ⟨(s.wk v).held.map (·.1), by rw [List.length_map, (h3.2 v).2.2.1]; omega, fun u x => ⟨ein_held w0 u F gx n k v s (h1.ext x) hv hk, ?_⟩⟩
    rw [(h3.2 v).2.2.1]
    exact dheld_any u G gk n v d (h2.ext x) hv (by omega)
  · obtain ⟨C, gm, L, e1, _⟩ := h1
    refine ⟨[], by simp, fun u x => ⟨?_, ?_⟩⟩
    · obtain ⟨gw, x1⟩ := (e1.ext x).x1
      refine (eheld_bad u gx n gw who x1 hb).mono ?_
      rintro e w' ⟨rfl, rfl⟩
      exact ⟨none, 0, rfl, World.ownsRow_nil _ _ _ _, Ext.refl _⟩
    · refine (dheld_bad u gk n who (h2.ext x).x1 hb).mono ?_
      rintro e w' ⟨rfl, rfl⟩
      exact ⟨none, 0, rfl, World.ownsRow_nil _ _ _ _, Ext.refl _⟩
end Go.Proofs.Ytlgggeeflomelaa
