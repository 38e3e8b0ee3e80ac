/- spigotlaw12: a counter that was played. -/
import Derived.Test.YtfjgpeffhbfihaaCntL
namespace Go.Proofs.Ytfjgpeffhbfihaa
open Go.RowKit

/-- played in memory: how many Ups and Downs returned OK; O: each worker's call; Sc: its steps since it began; Sw: Swaps since its Load -/
def PlAt (w : World) (gp gc lim ups downs : Nat) (O Sc Sw : Nat → Nat) : Prop :=
  ∃ cs : Array Value, w.heap[gp]? = some (.cells cs 92 (0, 0)) ∧ cs.size = 196 ∧ cs[0]? = some (.pointer (some ⟨gc, 0, none⟩)) ∧ cs[1]? = some (.int .i64 (lim : Int)) ∧ cs[2]? = some (.int .i64 (ups : Int)) ∧ cs[3]? = some (.int .i64 (downs : Int)) ∧
    ∀ i, i < 64 → cs[4 + i]? = some (.int .u8 (O i : Int)) ∧ cs[68 + i]? = some (.int .i64 (Sc i : Int)) ∧ cs[132 + i]? = some (.int .i64 (Sw i : Int))
def updN (f : Nat → Nat) (who x : Nat) : Nat → Nat := fun i => if i = who then x else f i
theorem updN_self (f : Nat → Nat) (who x : Nat) : updN f who x who = x := if_pos rfl
theorem updN_other (f : Nat → Nat) {who i : Nat} (x : Nat) (h : i ≠ who) : updN f who x i = f i := if_neg h
theorem pset_get {cs : Array Value} {j i : Nat} {v : Value} (h : i ≠ j) : (cs.setIfInBounds j v)[i]? = cs[i]? := by
  rw [Array.getElem?_setIfInBounds]
  rw [if_neg (fun e => h e.symm)]
theorem pset_self {cs : Array Value} {j : Nat} {v : Value} (h : j < cs.size) : (cs.setIfInBounds j v)[j]? = some v := by
  rw [Array.getElem?_setIfInBounds]
  simp [h]
theorem PlAt.blk {w w' : World} {gp gc lim ups downs : Nat} {O Sc Sw : Nat → Nat} (h : PlAt w gp gc lim ups downs O Sc Sw) (hb : w'.heap[gp]? = w.heap[gp]?) : PlAt w' gp gc lim ups downs O Sc Sw := by
  obtain ⟨cs, h1, h2⟩ := h
  exact ⟨cs, hb.trans h1, h2⟩
theorem PlAt.ext {w w' : World} {gp gc lim ups downs : Nat} {O Sc Sw : Nat → Nat} (h : PlAt w gp gc lim ups downs O Sc Sw) (x : Ext w w') : PlAt w' gp gc lim ups downs O Sc Sw := by
  obtain ⟨cs, h1, h2⟩ := h
  exact ⟨cs, blk_ext h1 x, h2⟩
theorem PlAt.lt {w : World} {gp gc lim ups downs : Nat} {O Sc Sw : Nat → Nat} (h : PlAt w gp gc lim ups downs O Sc Sw) : gp < w.heap.size := by
  obtain ⟨cs, h1, _⟩ := h
  exact blk_lt h1
theorem PlAt.big {w : World} {gp gc lim ups downs : Nat} {O Sc Sw : Nat → Nat} (h : PlAt w gp gc lim ups downs O Sc Sw) : ∃ o, w.heap[gp]? = some o ∧ ∀ u t, o ≠ .cells #[u] t (0, 0) := by
  obtain ⟨cs, h1, h2, _⟩ := h
  refine ⟨_, h1, fun u t e => ?_⟩
  injection e with e
  rw [e] at h2
  simp at h2
theorem PlAt.cells {w : World} {gp gc lim ups downs : Nat} {O Sc Sw : Nat → Nat} (h : PlAt w gp gc lim ups downs O Sc Sw) :
    w.cell? ⟨gp, 0, none⟩ = some (.pointer (some ⟨gc, 0, none⟩)) ∧ w.cell? ⟨gp, 1, none⟩ = some (.int .i64 (lim : Int)) ∧ w.cell? ⟨gp, 2, none⟩ = some (.int .i64 (ups : Int)) ∧ w.cell? ⟨gp, 3, none⟩ = some (.int .i64 (downs : Int)) ∧
      (∀ i, i < 64 → w.cell? ⟨gp, 4 + i, none⟩ = some (.int .u8 (O i : Int)) ∧ w.cell? ⟨gp, 68 + i, none⟩ = some (.int .i64 (Sc i : Int)) ∧ w.cell? ⟨gp, 132 + i, none⟩ = some (.int .i64 (Sw i : Int))) ∧ ∀ j, w.frozen? ⟨gp, j, none⟩ = false := by
  obtain ⟨cs, h1, _, h3, h4, h5, h6, h7⟩ := h
  exact ⟨(blk_cell h1 _).trans h3, (blk_cell h1 _).trans h4, (blk_cell h1 _).trans h5, (blk_cell h1 _).trans h6, fun i hi => ⟨(blk_cell h1 _).trans (h7 i hi).1, (blk_cell h1 _).trans (h7 i hi).2.1, (blk_cell h1 _).trans (h7 i hi).2.2⟩, fun j => blk_frozen h1 j⟩
theorem PlAt.setUps {w : World} {gp gc lim ups downs : Nat} {O Sc Sw : Nat → Nat} (h : PlAt w gp gc lim ups downs O Sc Sw) (x : Nat) : PlAt (w.setCell ⟨gp, 2, none⟩ (.int .i64 (x : Int))) gp gc lim x downs O Sc Sw := by
  obtain ⟨cs, h1, h2, h3, h4, h5, h6, h7⟩ := h
  exact ⟨_, blk_set h1 2 _, by simpa using h2, (pset_get (by omega)).trans h3, (pset_get (by omega)).trans h4, pset_self (by omega), (pset_get (by omega)).trans h6, fun i hi => ⟨(pset_get (by omega)).trans (h7 i hi).1, (pset_get (by omega)).trans (h7 i hi).2.1, (pset_get (by omega)).trans (h7 i hi).2.2⟩⟩
theorem PlAt.setDowns {w : World} {gp gc lim ups downs : Nat} {O Sc Sw : Nat → Nat} (h : PlAt w gp gc lim ups downs O Sc Sw) (x : Nat) : PlAt (w.setCell ⟨gp, 3, none⟩ (.int .i64 (x : Int))) gp gc lim ups x O Sc Sw := by
  obtain ⟨cs, h1, h2, h3, h4, h5, h6, h7⟩ := h
  exact ⟨_, blk_set h1 3 _, by simpa using h2, (pset_get (by omega)).trans h3, (pset_get (by omega)).trans h4, (pset_get (by omega)).trans h5, pset_self (by omega), fun i hi => ⟨(pset_get (by omega)).trans (h7 i hi).1, (pset_get (by omega)).trans (h7 i hi).2.1, (pset_get (by omega)).trans (h7 i hi).2.2⟩⟩
theorem PlAt.setOp {w : World} {gp gc lim ups downs who : Nat} {O Sc Sw : Nat → Nat} (h : PlAt w gp gc lim ups downs O Sc Sw) (hw : who < 64) (x : Nat) : PlAt (w.setCell ⟨gp, 4 + who, none⟩ (.int .u8 (x : Int))) gp gc lim ups downs (updN O who x) Sc Sw := by
  obtain ⟨cs, h1, h2, h3, h4, h5, h6, h7⟩ := h
  refine ⟨_, blk_set h1 _ _, by simpa using h2, (pset_get (by omega)).trans h3, (pset_get (by omega)).trans h4, (pset_get (by omega)).trans h5, (pset_get (by omega)).trans h6, fun i hi => ⟨?_, (pset_get (by omega)).trans (h7 i hi).2.1, (pset_get (by omega)).trans (h7 i hi).2.2⟩⟩
  by_cases e : i = who
  · subst e; rw [updN_self]; exact pset_self (by omega)
  · rw [updN_other O x e]; exact (pset_get (by omega)).trans (h7 i hi).1
theorem PlAt.setSc {w : World} {gp gc lim ups downs who : Nat} {O Sc Sw : Nat → Nat} (h : PlAt w gp gc lim ups downs O Sc Sw) (hw : who < 64) (x : Nat) : PlAt (w.setCell ⟨gp, 68 + who, none⟩ (.int .i64 (x : Int))) gp gc lim ups downs O (updN Sc who x) Sw := by
  obtain ⟨cs, h1, h2, h3, h4, h5, h6, h7⟩ := h
  refine ⟨_, blk_set h1 _ _, by simpa using h2, (pset_get (by omega)).trans h3, (pset_get (by omega)).trans h4, (pset_get (by omega)).trans h5, (pset_get (by omega)).trans h6, fun i hi => ⟨(pset_get (by omega)).trans (h7 i hi).1, ?_, (pset_get (by omega)).trans (h7 i hi).2.2⟩⟩
  by_cases e : i = who
  · subst e; rw [updN_self]; exact pset_self (by omega)
  · rw [updN_other Sc x e]; exact (pset_get (by omega)).trans (h7 i hi).2.1
theorem PlAt.setSw {w : World} {gp gc lim ups downs who : Nat} {O Sc Sw : Nat → Nat} (h : PlAt w gp gc lim ups downs O Sc Sw) (hw : who < 64) (x : Nat) : PlAt (w.setCell ⟨gp, 132 + who, none⟩ (.int .i64 (x : Int))) gp gc lim ups downs O Sc (updN Sw who x) := by
  obtain ⟨cs, h1, h2, h3, h4, h5, h6, h7⟩ := h
  refine ⟨_, blk_set h1 _ _, by simpa using h2, (pset_get (by omega)).trans h3, (pset_get (by omega)).trans h4, (pset_get (by omega)).trans h5, (pset_get (by omega)).trans h6, fun i hi => ⟨(pset_get (by omega)).trans (h7 i hi).1, (pset_get (by omega)).trans (h7 i hi).2.1, ?_⟩⟩
  by_cases e : i = who
  · subst e; rw [updN_self]; exact pset_self (by omega)
  · rw [updN_other Sw x e]; exact (pset_get (by omega)).trans (h7 i hi).2.2
/-- a call's place by its steps, and whether its Swap may fail -/
def HPar (val sc sw : Nat) : CallS → Prop
  | .load _ _ _ => sc % 2 = 0
  | .swap n _ _ _ => sc % 2 = 1 ∧ (sw = 0 → val = n)
  | _ => True
/-- what holds from call to call -/
def HoldsAt (w0 : World) (gp gc lim val a : Nat) (S : Nat → CallS) (w : World) : Prop :=
  ∃ F ups downs O Sc Sw, CntIn w0 F gc lim val a S w ∧ PlAt w gp gc lim ups downs O Sc Sw ∧ ¬ F gp ∧ w0.heap.size ≤ gp ∧ ups = downs + val ∧ ups ≤ a ∧ (∀ i, i < 64 → Sc i ≤ a ∧ Sw i ≤ a) ∧ ∀ i, i < 64 → OpOk lim (O i) (S i) ∧ HPar val (Sc i) (Sw i) (S i)
theorem HoldsAt.ext {w0 w w' : World} {gp gc lim val a : Nat} {S : Nat → CallS} (h : HoldsAt w0 gp gc lim val a S w) (x : Ext w w') : HoldsAt w0 gp gc lim val a S w' := by
  obtain ⟨F, ups, downs, O, Sc, Sw, h1, h2, h3⟩ := h
  exact ⟨F, ups, downs, O, Sc, Sw, h1.ext x, h2.ext x, h3⟩
theorem HoldsAt.out {w0 w : World} {gp gc lim val a : Nat} {S : Nat → CallS} (h : HoldsAt w0 gp gc lim val a S w) : Ext w0 w := by
  obtain ⟨F, ups, downs, O, Sc, Sw, h1, _⟩ := h
  exact CntIn.out h1
theorem hpar_new {val sc sw val' : Nat} {s : CallS} (h : HPar val sc sw s) : HPar val' sc (sw + 1) s := by
  cases s with
  | swap n _ _ _ => exact ⟨h.1, fun e => by omega⟩
  | load _ _ _ => exact h
  | _ => trivial
/-- steps that a call alone still wants, at most -/
def rankS (val : Nat) : CallS → Nat
  | .idle => 0
  | .read => 1
  | .load _ _ _ => 2
  | .swap n _ _ _ => if n = val then 1 else 3
theorem rank_step {val : Nat} {s : CallS} (hs : s ≠ .idle) : rankS (stVal val s) (stNext val s) < rankS val s := by
  cases s with
  | idle => exact absurd rfl hs
  | read => exact Nat.zero_lt_one
  | load stop e b =>
    by_cases h : val = stop
    · have e1 : stNext val (.load stop e b) = .idle := if_pos h
      rw [e1]; exact Nat.zero_lt_two
    · have e1 : stNext val (.load stop e b) = .swap val stop e b := if_neg h
      rw [e1]
      have e2 : rankS (stVal val (.load stop e b)) (.swap val stop e b) = 1 := if_pos rfl
      rw [e2]; exact Nat.one_lt_two
  | swap n stop e b =>
    by_cases h : val = n
    · have e1 : stNext val (.swap n stop e b) = .idle := if_pos h
      have e2 : rankS val (.swap n stop e b) = 1 := if_pos h.symm
      rw [e1, e2]; exact Nat.zero_lt_one
    · have e1 : stNext val (.swap n stop e b) = .load stop e b := if_neg h
      have e2 : rankS val (.swap n stop e b) = 3 := if_neg (fun e => h e.symm)
      rw [e1, e2]
      show 2 < 3
      omega
theorem rank_le (val : Nat) (s : CallS) : rankS val s ≤ 3 := by
  cases s with
  | swap n _ _ _ => simp only [rankS]; split <;> omega
  | _ => simp [rankS]
end Go.Proofs.Ytfjgpeffhbfihaa
