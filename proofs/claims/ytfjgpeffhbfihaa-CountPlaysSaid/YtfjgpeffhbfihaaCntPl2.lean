/- count beside the document's counter: Start, Pending, Value, Steps; same. -/
import Derived.Test.YtfjgpeffhbfihaaCntPl
import Derived.Test.YtfjgpeffhbfihaaCntL
namespace Go.Proofs.Ytfjgpeffhbfihaa
open Go.RowKit

/-- both calls, one behind the other, in either order, have one answer -/
def Both (w0 : World) (gc gd k N : Nat) (f1 f2 : FuncId) (a1 a2 : Array Value) (q : Int) (W : World) : Prop :=
  Calls Try.prog f1 a1 W fun e w1 => e = .returned (.int .i64 q) ∧ GB W w1 (· < N) ∧ ∀ u, Ext w1 u → Calls Try.prog f2 a2 u fun e w2 => e = .returned (.int .i64 q) ∧ GB u w2 (· < N) ∧ PlaysAt w0 gc gd k w2
theorem plays_start (w0 wr W : World) (gc gd k : Nat) (who : Int) (op : Nat) (h : PlaysAt w0 gc gd k wr) (x : Ext wr W) (hop : op < 256) :
    ∃ q, Both w0 gc gd k wr.heap.size 27 28 #[.pointer (some ⟨gc, 0, none⟩), .int .i64 who, .int .u8 (op : Int)] #[.pointer (some ⟨gd, 0, none⟩), .int .i64 who, .int .u8 (op : Int)] q W ∧
      Both w0 gc gd k wr.heap.size 28 27 #[.pointer (some ⟨gd, 0, none⟩), .int .i64 who, .int .u8 (op : Int)] #[.pointer (some ⟨gc, 0, none⟩), .int .i64 who, .int .u8 (op : Int)] q W := by
  have hW := h.ext x
  by_cases hb : (0 ≤ who ∧ who < 64) ∧ 1 ≤ op ∧ op ≤ 3
  · obtain ⟨hb, ho1, ho3⟩ := hb
    obtain ⟨d, rfl⟩ : ∃ d : Nat, who = (d : Int) := ⟨who.toNat, by omega⟩
    have hd : d < 64 := by omega
    obtain ⟨F, lim, val, a, S, C, h1, h2, h3, h4, h5, h6⟩ := h
    have hr := h4 d hd
    by_cases hs : S d = .idle
    · have hc0 := (relS_idle hr).1 hs
      have fin : ∀ (u v : World) (F' : Nat → Prop), CntIn w0 F' gc lim val a (updS S d (startS lim op)) u → ¬ F' gd → GB u v (· = gd) → DocAt u gd lim val a C → DocAt v gd lim val a (updC C d (op, false, 0)) → PlaysAt w0 gc gd k v := fun u v F' hi nF g hdu hdv => by
        obtain ⟨o, hoo, hbig⟩ := hdu.big
        exact ⟨F', lim, val, a, _, _, hi.far g nF hoo hbig h6, h2, hdv, rel_upd h4 (relS_start lim op ho1 ho3), nF, h6⟩
      refine ⟨0, (cin_start w0 W F gc lim val a d op S (h1.ext x) hd hs ho1 ho3).mono ?_, (dstart_ok W gd lim val a d op C (h3.ext x) hd ho1 ho3 hc0).mono ?_⟩
      · rintro e w1 ⟨rfl, F', g1, g2, g3⟩
        refine ⟨rfl, g2.more (fun i _ hi => h1.lt i hi), fun u xu => ?_⟩
        have hd1 : DocAt w1 gd lim val a C := (h3.ext x).blk (g2.block gd (h3.ext x).lt h5)
        have nF' : ¬ F' gd := fun e => by
          rcases g3 gd e with h | h
          · exact h5 h
          · have := (h3.ext x).lt; omega
        refine (dstart_ok u gd lim val a d op C (hd1.ext xu) hd ho1 ho3 hc0).mono ?_
        rintro e w2 ⟨rfl, hdo, hgb⟩
        exact ⟨rfl, hgb.more (fun i _ e => by have h9 := h3.lt; have e : i = gd := e; omega), fin u w2 F' (g1.ext xu) nF' hgb (hd1.ext xu) hdo⟩
      · rintro e w1 ⟨rfl, hdo, hgb⟩
        refine ⟨rfl, hgb.more (fun i _ e => by have h9 := h3.lt; have e : i = gd := e; omega), fun u xu => ?_⟩
        obtain ⟨o, hoo, hbig⟩ := (h3.ext x).big
        have hi1 := ((h1.ext x).far hgb h5 hoo hbig h6).ext xu
        refine (cin_start w0 u F gc lim val a d op S hi1 hd hs ho1 ho3).mono ?_
        rintro e w2 ⟨rfl, F', g1, g2, g3⟩
        have nF' : ¬ F' gd := fun e => by
          rcases g3 gd e with h | h
          · exact h5 h
          · have := (hdo.ext xu).lt; omega
        exact ⟨rfl, g2.more (fun i _ hi => h1.lt i hi), F', lim, val, a, _, _, g1, h2, (hdo.ext xu).blk (g2.block gd (hdo.ext xu).lt h5), rel_upd h4 (relS_start lim op ho1 ho3), nF', h6⟩
    · have hc0 : (C d).1 ≠ 0 := fun e => hs ((relS_idle hr).2 e)
      refine ⟨9, (cin_busy w0 W F gc lim val a d op S (h1.ext x) hd hs ho1 ho3).mono ?_, (dstart_busy W gd lim val a d op C (h3.ext x) hd ho1 ho3 hc0).mono ?_⟩
      · rintro e w1 ⟨rfl, hi, x1⟩
        refine ⟨rfl, GB.of_ext _ x1, fun u xu => (dstart_busy u gd lim val a d op C (h3.ext ((x.trans x1).trans xu)) hd ho1 ho3 hc0).mono ?_⟩
        rintro e w2 ⟨rfl, rfl⟩
        exact ⟨rfl, GB.refl _ _, hW.ext (x1.trans xu)⟩
      · rintro e w1 ⟨rfl, rfl⟩
        refine ⟨rfl, GB.refl _ _, fun u xu => (cin_busy w0 u F gc lim val a d op S (h1.ext (x.trans xu)) hd hs ho1 ho3).mono ?_⟩
        rintro e w2 ⟨rfl, hi, x1⟩
        exact ⟨rfl, GB.of_ext _ x1, hW.ext (xu.trans x1)⟩
  · have hb' : ¬ (0 ≤ who ∧ who < 64) ∨ op = 0 ∨ 3 < op := by omega
    refine ⟨1, (cstart_arg W _ who op hop hb').mono ?_, (dstart_arg W _ who op hop hb').mono ?_⟩
    · rintro e w1 ⟨rfl, x1⟩
      refine ⟨rfl, GB.of_ext _ x1, fun u xu => (dstart_arg u _ who op hop hb').mono ?_⟩
      rintro e w2 ⟨rfl, rfl⟩
      exact ⟨rfl, GB.refl _ _, hW.ext (x1.trans xu)⟩
    · rintro e w1 ⟨rfl, rfl⟩
      refine ⟨rfl, GB.refl _ _, fun u xu => (cstart_arg u _ who op hop hb').mono ?_⟩
      rintro e w2 ⟨rfl, x1⟩
      exact ⟨rfl, GB.of_ext _ x1, hW.ext (xu.trans x1)⟩
theorem plays_pend (w0 wr : World) (gc gd k : Nat) (who : Int) (h : PlaysAt w0 gc gd k wr) :
    ∃ b, ∀ u, Ext wr u → (Calls Try.prog 32 #[.pointer (some ⟨gc, 0, none⟩), .int .i64 who] u fun e w' => e = .returned (.bool b) ∧ u = w') ∧ Calls Try.prog 33 #[.pointer (some ⟨gd, 0, none⟩), .int .i64 who] u fun e w' => e = .returned (.bool b) ∧ u = w' := by
  obtain ⟨F, lim, val, a, S, C, h1, h2, h3, h4, h5, h6⟩ := h
  by_cases hb : 0 ≤ who ∧ who < 64
  · obtain ⟨d, rfl⟩ : ∃ d : Nat, who = (d : Int) := ⟨who.toNat, by omega⟩
    have hd : d < 64 := by omega
    have hr := h4 d hd
    by_cases hs : S d = .idle
    · exact ⟨false, fun u x => ⟨cin_pend w0 u F gc lim val a d S (h1.ext x) hd false (.inr ⟨rfl, hs⟩), dpend_any u gd lim val a d C (h3.ext x) hd false (.inr ⟨rfl, (relS_idle hr).1 hs⟩)⟩⟩
    · exact ⟨true, fun u x => ⟨cin_pend w0 u F gc lim val a d S (h1.ext x) hd true (.inl ⟨rfl, hs⟩), dpend_any u gd lim val a d C (h3.ext x) hd true (.inl ⟨rfl, fun e => hs ((relS_idle hr).2 e)⟩)⟩⟩
  · exact ⟨false, fun u _ => ⟨cpend_bad u gc who hb, dpend_bad u gd who hb⟩⟩
theorem plays_vals (w0 wr : World) (gc gd k : Nat) (h : PlaysAt w0 gc gd k wr) :
    ∃ n st : Nat, ∀ u, Ext wr u → (Calls Try.prog 34 #[.pointer (some ⟨gc, 0, none⟩)] u fun e w' => e = .returned (.int .i64 (n : Int)) ∧ u = w') ∧ (Calls Try.prog 35 #[.pointer (some ⟨gc, 0, none⟩)] u fun e w' => e = .returned (.int .i64 (st : Int)) ∧ u = w') ∧
      u.cell? ⟨gd, 1, none⟩ = some (.int .i64 (n : Int)) ∧ u.cell? ⟨gd, 2, none⟩ = some (.int .i64 (st : Int)) := by
  obtain ⟨F, lim, val, a, S, C, h1, h2, h3, h4, h5, h6⟩ := h
  refine ⟨val, a, fun u x => ⟨cin_value w0 u F gc lim val a S (h1.ext x), cin_steps w0 u F gc lim val a S (h1.ext x), ?_, ?_⟩⟩
  · exact ((h3.ext x).cells (who := 0) (by omega)).2.1
  · exact ((h3.ext x).cells (who := 0) (by omega)).2.2.1
theorem csame_any (w : World) (d : Bool) (er n : Int) : Calls Try.prog 31 #[.agg #[.bool d, .int .i64 er, .int .i64 n], .agg #[.bool d, .int .i64 er, .int .i64 n]] w (RetE (.bool true) w) := by
  go_enter Try.func31, Try.ntmps31
  go_wp2
  go_ret
  exact ⟨by cases d <;> rfl, ((Ext.refl w).alloc _).alloc _⟩
end Go.Proofs.Ytfjgpeffhbfihaa
