/- count beside the document's counter. -/
import Derived.Test.YtfjgpeffhbfihaaRefCnt4
import Derived.Test.YtfjgpeffhbfihaaCntK
namespace Go.Proofs.Ytfjgpeffhbfihaa
open Go.RowKit

/-- a call here and in the document -/
def RelS (lim : Nat) (c : Nat × Bool × Nat) : CallS → Prop
  | .idle => c.1 = 0
  | .read => c.1 = 3 ∧ c.2.1 = false
  | .load stop e b => c.2.1 = false ∧ ((c.1 = 1 ∧ stop = lim ∧ e = 10 ∧ b = 1) ∨ (c.1 = 2 ∧ stop = 0 ∧ e = 5 ∧ b = minus1))
  | .swap n stop e b => c.2.1 = true ∧ c.2.2 = n ∧ n ≤ lim ∧ ((c.1 = 1 ∧ stop = lim ∧ e = 10 ∧ b = 1 ∧ n ≠ lim) ∨ (c.1 = 2 ∧ stop = 0 ∧ e = 5 ∧ b = minus1 ∧ n ≠ 0))
def PlaysAt (w0 : World) (gc gd k : Nat) (w : World) : Prop :=
  ∃ F lim val a S C, CntIn w0 F gc lim val a S w ∧ a ≤ k ∧ DocAt w gd lim val a C ∧ (∀ i, i < 64 → RelS lim (C i) (S i)) ∧ ¬ F gd ∧ w0.heap.size ≤ gd
theorem PlaysAt.ext {w0 w w' : World} {gc gd k : Nat} (h : PlaysAt w0 gc gd k w) (x : Ext w w') : PlaysAt w0 gc gd k w' := by
  obtain ⟨F, lim, val, a, S, C, h1, h2, h3, h4, h5, h6⟩ := h
  exact ⟨F, lim, val, a, S, C, h1.ext x, h2, h3.ext x, h4, h5, h6⟩
theorem PlaysAt.out {w0 w : World} {gc gd k : Nat} (h : PlaysAt w0 gc gd k w) : Ext w0 w := by
  obtain ⟨F, lim, val, a, S, C, h1, _⟩ := h
  exact CntIn.out h1
theorem DocAt.big {w : World} {gd lim n st : Nat} {C : Nat → Nat × Bool × Nat} (h : DocAt w gd lim n st C) : ∃ o, w.heap[gd]? = some o ∧ ∀ u t, o ≠ .cells #[u] t (0, 0) := by
  obtain ⟨cs, h1, h2, _⟩ := h
  refine ⟨_, h1, fun u t e => ?_⟩
  injection e with e
  rw [e] at h2
  simp at h2
theorem relS_idle {lim : Nat} {c : Nat × Bool × Nat} {s : CallS} (h : RelS lim c s) : s = .idle ↔ c.1 = 0 := by
  cases s with
  | idle => exact ⟨fun _ => h, fun _ => rfl⟩
  | read => exact ⟨fun e => (by cases e), fun e => by have := h.1; omega⟩
  | load stop e b => exact ⟨fun e => (by cases e), fun e => by rcases h.2 with h | h <;> have := h.1 <;> omega⟩
  | swap n stop e b => exact ⟨fun e => (by cases e), fun e => by rcases h.2.2.2 with h | h <;> have := h.1 <;> omega⟩
theorem relS_start (lim op : Nat) (h1 : 1 ≤ op) (h3 : op ≤ 3) : RelS lim (op, false, 0) (startS lim op) := by
  rcases (by omega : op = 1 ∨ op = 2 ∨ op = 3) with rfl | rfl | rfl
  · exact ⟨rfl, .inl ⟨rfl, rfl, rfl, rfl⟩⟩
  · exact ⟨rfl, .inr ⟨rfl, rfl, rfl, rfl⟩⟩
  · exact ⟨rfl, rfl⟩
theorem rel_upd {lim who : Nat} {S : Nat → CallS} {C : Nat → Nat × Bool × Nat} {s : CallS} {c : Nat × Bool × Nat} (h : ∀ i, i < 64 → RelS lim (C i) (S i)) (hs : RelS lim c s) : ∀ i, i < 64 → RelS lim (updC C who c i) (updS S who s i) := fun i hi => by
  by_cases e : i = who
  · subst e
    rw [updC_self, updS_self]
    exact hs
  · rw [updC_other C c e, updS_other S s e]
    exact h i hi
/-- DocStep at whatever call is under way -/
theorem dstep_any (w : World) (gd lim val st who : Nat) (C : Nat → Nat × Bool × Nat) (s : CallS) (h : DocAt w gd lim val st C) (hw : who < 64) (hr : RelS lim (C who) s) (hs : s ≠ .idle) (hst : st ≤ 1000000) (hv : val ≤ lim) (hl : (lim : Int) ≤ 4611686018427387903) :
    ∃ c, RelS lim c (stNext val s) ∧ Calls Try.prog 30 #[.pointer (some ⟨gd, 0, none⟩), .int .i64 (who : Int)] w fun e w' => e = .returned (.tuple #[.agg #[.bool (stDone val s), .int .i64 (stErr val s), .int .i64 (stNum val s)], .int .i64 0]) ∧ DocGo w gd lim (stVal val s) (st + 1) (updC C who c) w' := by
  obtain ⟨op, rd, x⟩ : ∃ op rd, ∃ x, C who = (op, rd, x) := ⟨(C who).1, (C who).2.1, (C who).2.2, rfl⟩
  cases s with
  | idle => exact absurd rfl hs
  | read =>
    obtain ⟨x, hC⟩ := x
    rw [hC] at hr
    obtain ⟨rfl, rfl⟩ := hr
    exact ⟨(0, false, 0), rfl, dstep_read w gd lim val st who x C h hw hC hst⟩
  | load stop e b =>
    obtain ⟨x, hC⟩ := x
    rw [hC] at hr
    obtain ⟨rfl, hr⟩ := hr
    by_cases he : val = stop
    · have e1 : stNext val (.load stop e b) = .idle := if_pos he
      have e2 : stErr val (.load stop e b) = e := if_pos he
      have e3 : stDone val (.load stop e b) = true := decide_eq_true he
      rw [e1, e2, e3]
      rcases hr with ⟨rfl, h1, rfl, h3⟩ | ⟨rfl, h1, rfl, h3⟩
      · exact ⟨(0, false, 0), rfl, dstep_full w gd lim val st who x C h hw hC hst (by omega)⟩
      · exact ⟨(0, false, 0), rfl, dstep_range w gd lim val st who x C h hw hC hst (by omega)⟩
    · have e1 : stNext val (.load stop e b) = .swap val stop e b := if_neg he
      have e2 : stErr val (.load stop e b) = 0 := if_neg he
      have e3 : stDone val (.load stop e b) = false := decide_eq_false he
      rw [e1, e2, e3]
      rcases hr with ⟨rfl, h1, h2, h3⟩ | ⟨rfl, h1, h2, h3⟩
      · exact ⟨(1, true, val), ⟨rfl, rfl, hv, .inl ⟨rfl, h1, h2, h3, by omega⟩⟩, dstep_up w gd lim val st who x C h hw hC hst (by omega)⟩
      · exact ⟨(2, true, val), ⟨rfl, rfl, hv, .inr ⟨rfl, h1, h2, h3, by omega⟩⟩, dstep_down w gd lim val st who x C h hw hC hst (by omega)⟩
  | swap n stop e b =>
    obtain ⟨x, hC⟩ := x
    rw [hC] at hr
    obtain ⟨rfl, hx, hn, hr⟩ := hr
    obtain rfl : x = n := hx
    by_cases he : val = x
    · subst he
      have e1 : stNext val (.swap val stop e b) = .idle := if_pos rfl
      have e2 : stNum val (.swap val stop e b) = (addW val b : Int) := if_pos rfl
      have e3 : stDone val (.swap val stop e b) = true := decide_eq_true rfl
      have e4 : stVal val (.swap val stop e b) = addW val b := if_pos rfl
      have e5 : stErr val (.swap val stop e b) = 0 := rfl
      rw [e1, e2, e3, e4, e5]
      rcases hr with ⟨rfl, h1, h2, rfl, h4⟩ | ⟨rfl, h1, h2, rfl, h4⟩
      · rw [addW_up (lim := lim) (by omega) hl]
        exact ⟨(0, false, 0), rfl, dstep_inc w gd lim val st who C h hw hC hst (by omega)⟩
      · obtain ⟨n', rfl⟩ : ∃ n', val = n' + 1 := ⟨val - 1, by omega⟩
        rw [addW_down (by omega) (by omega), Nat.add_sub_cancel]
        exact ⟨(0, false, 0), rfl, dstep_dec w gd lim (n' + 1) st who n' C h hw hC hst (by omega) rfl⟩
    · have e1 : stNext val (.swap x stop e b) = .load stop e b := if_neg he
      have e2 : stNum val (.swap x stop e b) = 0 := if_neg he
      have e3 : stDone val (.swap x stop e b) = false := decide_eq_false he
      have e4 : stVal val (.swap x stop e b) = val := if_neg he
      have e5 : stErr val (.swap x stop e b) = 0 := rfl
      rw [e1, e2, e3, e4, e5]
      rcases hr with ⟨rfl, h1, h2, h3, h4⟩ | ⟨rfl, h1, h2, h3, h4⟩
      · exact ⟨(1, false, x), ⟨rfl, .inl ⟨rfl, h1, h2, h3⟩⟩, dstep_miss w gd lim val st who 1 x C h hw hC hst (by omega) (by omega) he⟩
      · exact ⟨(2, false, x), ⟨rfl, .inr ⟨rfl, h1, h2, h3⟩⟩, dstep_miss w gd lim val st who 2 x C h hw hC hst (by omega) (by omega) he⟩
/-- Step, and behind it DocStep, wherever the world has grown -/
theorem plays_step (w0 wr W : World) (gc gd k : Nat) (who : Int) (h : PlaysAt w0 gc gd k wr) (x : Ext wr W) (hk : k ≤ 1000) :
    ∃ (d : Bool) (er n q : Int), Calls Try.prog 29 #[.pointer (some ⟨gc, 0, none⟩), .int .i64 who] W fun e w1 => e = .returned (.tuple #[.agg #[.bool d, .int .i64 er, .int .i64 n], .int .i64 q]) ∧ GB W w1 (· < wr.heap.size) ∧ ∀ u, Ext w1 u →
      Calls Try.prog 30 #[.pointer (some ⟨gd, 0, none⟩), .int .i64 who] u fun e w2 => e = .returned (.tuple #[.agg #[.bool d, .int .i64 er, .int .i64 n], .int .i64 q]) ∧ GB u w2 (· < wr.heap.size) ∧ PlaysAt w0 gc gd (k + 1) w2 := by
  have hW := h.ext x
  have more : ∀ u, PlaysAt w0 gc gd k u → PlaysAt w0 gc gd (k + 1) u := fun u h => by
    obtain ⟨F, lim, val, a, S, C, h1, h2, h3⟩ := h
    exact ⟨F, lim, val, a, S, C, h1, by omega, h3⟩
  by_cases hb : 0 ≤ who ∧ who < 64
  · obtain ⟨d, rfl⟩ : ∃ d : Nat, who = (d : Int) := ⟨who.toNat, by omega⟩
    have hd : d < 64 := by omega
    obtain ⟨F, lim, val, a, S, C, h1, h2, h3, h4, h5, h6⟩ := h
    have hr := h4 d hd
    have hle := h1.le
    have hlm : (lim : Int) ≤ 4611686018427387903 := by obtain ⟨_, _, _, _, _, _, _, _, h⟩ := h1; exact h
    by_cases hs : S d = .idle
    · refine ⟨false, 0, 0, 7, (cin_idle w0 W F gc lim val a d S (h1.ext x) hd hs).mono ?_⟩
      rintro e w1 ⟨rfl, hi, x1⟩
      refine ⟨rfl, GB.of_ext _ x1, fun u xu => (dstep_idle u gd lim val a d C (h3.ext ((x.trans x1).trans xu)) hd ((relS_idle hr).1 hs)).mono ?_⟩
      rintro e w2 ⟨rfl, x2⟩
      exact ⟨rfl, GB.of_ext _ x2, more _ (hW.ext ((x1.trans xu).trans x2))⟩
    · refine ⟨stDone val (S d), stErr val (S d), stNum val (S d), 0, (cin_step w0 W F gc lim val a d S (h1.ext x) hd hs (by omega)).mono ?_⟩
      rintro e w1 ⟨rfl, hg⟩
      obtain ⟨F', g1, g2, g3⟩ := hg
      refine ⟨rfl, g2.more (fun i _ hi => h1.lt i hi), fun u xu => ?_⟩
      have hd1 : DocAt w1 gd lim val a C := (h3.ext x).blk (g2.block gd (h3.ext x).lt h5)
      obtain ⟨c, hc, hst⟩ := dstep_any u gd lim val a d C (S d) (hd1.ext xu) hd hr hs (by omega) hle hlm
      refine hst.mono ?_
      rintro e w2 ⟨rfl, hdo, hgb⟩
      have nF' : ¬ F' gd := fun e => by
        rcases g3 gd e with h | h
        · exact h5 h
        · have := (h3.ext x).lt; omega
      obtain ⟨o, ho, hbig⟩ := (hd1.ext xu).big
      refine ⟨rfl, hgb.more (fun i _ e => by have h9 := h3.lt; have e : i = gd := e; omega), F', lim, _, a + 1, _, _, ((g1.ext xu).far hgb nF' ho hbig h6), by omega, hdo, rel_upd h4 hc, nF', h6⟩
  · refine ⟨false, 0, 0, 1, (cstep_arg W _ who hb).mono ?_⟩
    rintro e w1 ⟨rfl, x1⟩
    refine ⟨rfl, GB.of_ext _ x1, fun u xu => (dstep_arg u _ who hb).mono ?_⟩
    rintro e w2 ⟨rfl, x2⟩
    exact ⟨rfl, GB.of_ext _ x2, more _ (hW.ext ((x1.trans xu).trans x2))⟩
end Go.Proofs.Ytfjgpeffhbfihaa
