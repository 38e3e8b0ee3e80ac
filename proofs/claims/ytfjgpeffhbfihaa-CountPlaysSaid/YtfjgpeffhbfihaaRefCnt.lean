/- spigotref12: the document's counter in memory; DocNew, DocStart, Pending. -/
import Derived.Test.YtfjgpeffhbfihaaCntJ
import Derived.Test.YtfjgpeffhbfihaaRefD
import Derived.Test.YtfjgpeffhbfihaaRecs
namespace Go.Proofs.Ytfjgpeffhbfihaa
open Go.RowKit

/-- the document's counter; C: each worker's call: what, whether its Load was done, what that read -/
def DocAt (w : World) (gd lim n st : Nat) (C : Nat → Nat × Bool × Nat) : Prop :=
  ∃ cs : Array Value, w.heap[gd]? = some (.cells cs 86 (0, 0)) ∧ cs.size = 195 ∧ cs[0]? = some (.int .i64 (lim : Int)) ∧ cs[1]? = some (.int .i64 (n : Int)) ∧ cs[2]? = some (.int .i64 (st : Int)) ∧
    ∀ i, i < 64 → cs[3 + i * 3]? = some (.int .u8 ((C i).1 : Int)) ∧ cs[3 + i * 3 + 1]? = some (.bool (C i).2.1) ∧ cs[3 + i * 3 + 2]? = some (.int .i64 ((C i).2.2 : Int))
def updC (C : Nat → Nat × Bool × Nat) (who : Nat) (x : Nat × Bool × Nat) : Nat → Nat × Bool × Nat := fun i => if i = who then x else C i
theorem updC_self (C : Nat → Nat × Bool × Nat) (who : Nat) (x : Nat × Bool × Nat) : updC C who x who = x := if_pos rfl
theorem updC_other (C : Nat → Nat × Bool × Nat) {who i : Nat} (x : Nat × Bool × Nat) (h : i ≠ who) : updC C who x i = C i := if_neg h
theorem DocAt.blk {w w' : World} {gd lim n st : Nat} {C : Nat → Nat × Bool × Nat} (h : DocAt w gd lim n st C) (hb : w'.heap[gd]? = w.heap[gd]?) : DocAt w' gd lim n st C := by
  obtain ⟨cs, h1, h2⟩ := h
  exact ⟨cs, hb.trans h1, h2⟩
theorem DocAt.ext {w w' : World} {gd lim n st : Nat} {C : Nat → Nat × Bool × Nat} (h : DocAt w gd lim n st C) (x : Ext w w') : DocAt w' gd lim n st C := by
  obtain ⟨cs, h1, h2⟩ := h
  exact ⟨cs, blk_ext h1 x, h2⟩
theorem DocAt.lt {w : World} {gd lim n st : Nat} {C : Nat → Nat × Bool × Nat} (h : DocAt w gd lim n st C) : gd < w.heap.size := by
  obtain ⟨cs, h1, _⟩ := h
  exact blk_lt h1
theorem DocAt.cells {w : World} {gd lim n st who : Nat} {C : Nat → Nat × Bool × Nat} (h : DocAt w gd lim n st C) (hw : who < 64) :
    w.cell? ⟨gd, 0, none⟩ = some (.int .i64 (lim : Int)) ∧ w.cell? ⟨gd, 1, none⟩ = some (.int .i64 (n : Int)) ∧ w.cell? ⟨gd, 2, none⟩ = some (.int .i64 (st : Int)) ∧ w.cell? ⟨gd, 3 + who * 3, none⟩ = some (.int .u8 ((C who).1 : Int)) ∧ w.cell? ⟨gd, 3 + who * 3 + 1, none⟩ = some (.bool (C who).2.1) ∧ w.cell? ⟨gd, 3 + who * 3 + 2, none⟩ = some (.int .i64 ((C who).2.2 : Int)) ∧ ∀ j, w.frozen? ⟨gd, j, none⟩ = false := by
  obtain ⟨cs, h1, _, h3, h4, h5, h6⟩ := h
  obtain ⟨a, b, c⟩ := h6 who hw
  exact ⟨(blk_cell h1 _).trans h3, (blk_cell h1 _).trans h4, (blk_cell h1 _).trans h5, (blk_cell h1 _).trans a, (blk_cell h1 _).trans b, (blk_cell h1 _).trans c, fun j => blk_frozen h1 j⟩
theorem set_get {cs : Array Value} {j i : Nat} {v : Value} (h : i ≠ j) : (cs.setIfInBounds j v)[i]? = cs[i]? := by
  rw [Array.getElem?_setIfInBounds]
  rw [if_neg (fun e => h e.symm)]
theorem set_self {cs : Array Value} {j : Nat} {v : Value} (h : j < cs.size) : (cs.setIfInBounds j v)[j]? = some v := by
  rw [Array.getElem?_setIfInBounds]
  simp [h]
theorem DocAt.setN {w : World} {gd lim n st : Nat} {C : Nat → Nat × Bool × Nat} (h : DocAt w gd lim n st C) (m : Nat) : DocAt (w.setCell ⟨gd, 1, none⟩ (.int .i64 (m : Int))) gd lim m st C := by
  obtain ⟨cs, h1, h2, h3, h4, h5, h6⟩ := h
  refine ⟨_, blk_set h1 1 _, by simpa using h2, (set_get (by omega)).trans h3, set_self (by omega), (set_get (by omega)).trans h5, fun i hi => ?_⟩
  obtain ⟨a, b, c⟩ := h6 i hi
  exact ⟨(set_get (by omega)).trans a, (set_get (by omega)).trans b, (set_get (by omega)).trans c⟩
theorem DocAt.setSt {w : World} {gd lim n st : Nat} {C : Nat → Nat × Bool × Nat} (h : DocAt w gd lim n st C) (m : Nat) : DocAt (w.setCell ⟨gd, 2, none⟩ (.int .i64 (m : Int))) gd lim n m C := by
  obtain ⟨cs, h1, h2, h3, h4, h5, h6⟩ := h
  refine ⟨_, blk_set h1 2 _, by simpa using h2, (set_get (by omega)).trans h3, (set_get (by omega)).trans h4, set_self (by omega), fun i hi => ?_⟩
  obtain ⟨a, b, c⟩ := h6 i hi
  exact ⟨(set_get (by omega)).trans a, (set_get (by omega)).trans b, (set_get (by omega)).trans c⟩
theorem DocAt.setOp {w : World} {gd lim n st who : Nat} {C : Nat → Nat × Bool × Nat} (h : DocAt w gd lim n st C) (hw : who < 64) (o : Nat) : DocAt (w.setCell ⟨gd, 3 + who * 3, none⟩ (.int .u8 (o : Int))) gd lim n st (updC C who (o, (C who).2)) := by
  obtain ⟨cs, h1, h2, h3, h4, h5, h6⟩ := h
  refine ⟨_, blk_set h1 _ _, by simpa using h2, (set_get (by omega)).trans h3, (set_get (by omega)).trans h4, (set_get (by omega)).trans h5, fun i hi => ?_⟩
  obtain ⟨a, b, c⟩ := h6 i hi
  by_cases e : i = who
  · subst e
    rw [updC_self]
    exact ⟨set_self (by omega), (set_get (by omega)).trans b, (set_get (by omega)).trans c⟩
  · rw [updC_other C _ e]
    exact ⟨(set_get (by omega)).trans a, (set_get (by omega)).trans b, (set_get (by omega)).trans c⟩
theorem DocAt.setRd {w : World} {gd lim n st who : Nat} {C : Nat → Nat × Bool × Nat} (h : DocAt w gd lim n st C) (hw : who < 64) (o : Bool) : DocAt (w.setCell ⟨gd, 3 + who * 3 + 1, none⟩ (.bool o)) gd lim n st (updC C who ((C who).1, o, (C who).2.2)) := by
  obtain ⟨cs, h1, h2, h3, h4, h5, h6⟩ := h
  refine ⟨_, blk_set h1 _ _, by simpa using h2, (set_get (by omega)).trans h3, (set_get (by omega)).trans h4, (set_get (by omega)).trans h5, fun i hi => ?_⟩
  obtain ⟨a, b, c⟩ := h6 i hi
  by_cases e : i = who
  · subst e
    rw [updC_self]
    exact ⟨(set_get (by omega)).trans a, set_self (by omega), (set_get (by omega)).trans c⟩
  · rw [updC_other C _ e]
    exact ⟨(set_get (by omega)).trans a, (set_get (by omega)).trans b, (set_get (by omega)).trans c⟩
theorem DocAt.setNum {w : World} {gd lim n st who : Nat} {C : Nat → Nat × Bool × Nat} (h : DocAt w gd lim n st C) (hw : who < 64) (o : Nat) : DocAt (w.setCell ⟨gd, 3 + who * 3 + 2, none⟩ (.int .i64 (o : Int))) gd lim n st (updC C who ((C who).1, (C who).2.1, o)) := by
  obtain ⟨cs, h1, h2, h3, h4, h5, h6⟩ := h
  refine ⟨_, blk_set h1 _ _, by simpa using h2, (set_get (by omega)).trans h3, (set_get (by omega)).trans h4, (set_get (by omega)).trans h5, fun i hi => ?_⟩
  obtain ⟨a, b, c⟩ := h6 i hi
  by_cases e : i = who
  · subst e
    rw [updC_self]
    exact ⟨(set_get (by omega)).trans a, (set_get (by omega)).trans b, set_self (by omega)⟩
  · rw [updC_other C _ e]
    exact ⟨(set_get (by omega)).trans a, (set_get (by omega)).trans b, (set_get (by omega)).trans c⟩
theorem updC_upd (C : Nat → Nat × Bool × Nat) (who : Nat) (x y : Nat × Bool × Nat) : updC (updC C who x) who y = updC C who y := by
  funext i
  unfold updC
  split <;> rfl
theorem DocAt.setRow {w : World} {gd lim n st who : Nat} {C : Nat → Nat × Bool × Nat} (h : DocAt w gd lim n st C) (hw : who < 64) (o : Nat) (b : Bool) (m : Nat) : DocAt (((w.setCell ⟨gd, 3 + who * 3, none⟩ (.int .u8 (o : Int))).setCell ⟨gd, 3 + who * 3 + 1, none⟩ (.bool b)).setCell ⟨gd, 3 + who * 3 + 2, none⟩ (.int .i64 (m : Int))) gd lim n st (updC C who (o, b, m)) := by
  have h1 := ((h.setOp hw o).setRd hw b).setNum hw m
  rw [updC_upd, updC_self, updC_upd, updC_self] at h1
  exact h1
/-- the document's counter went on; nothing else has turned -/
def DocGo (w : World) (gd lim n st : Nat) (C : Nat → Nat × Bool × Nat) (w' : World) : Prop := DocAt w' gd lim n st C ∧ GB w w' (· = gd)
/-- the cells of a new one -/
def zeroCells (lim : Nat) : Array Value := (.int .i64 (lim : Int) :: .int .i64 0 :: .int .i64 0 :: (List.replicate 64 (0 : Nat)).flatMap fun _ => [.int .u8 0, .bool false, .int .i64 0]).toArray
theorem zero_get (lim : Nat) {i : Nat} (hi : i < 64) : (zeroCells lim)[3 + i * 3]? = some (.int .u8 ((0 : Nat) : Int)) ∧ (zeroCells lim)[3 + i * 3 + 1]? = some (.bool false) ∧ (zeroCells lim)[3 + i * 3 + 2]? = some (.int .i64 ((0 : Nat) : Int)) := by
  have hg : ∀ j, j < 3 → (zeroCells lim)[3 + i * 3 + j]? = ([Value.int .u8 0, .bool false, .int .i64 0] : List Value)[j]? := fun j hj => by
    unfold zeroCells
    rw [List.getElem?_toArray, show 3 + i * 3 + j = (i * 3 + j) + 1 + 1 + 1 by omega]
    simp only [List.getElem?_cons_succ]
    exact flat_get (fun _ => [Value.int .u8 0, .bool false, .int .i64 0]) 3 (List.replicate 64 (0 : Nat)) (fun _ _ => rfl) i 0 (by rw [List.getElem?_replicate, if_pos hi]) j hj
  exact ⟨hg 0 (by omega), hg 1 (by omega), hg 2 (by omega)⟩
def DocNewRet (lim : Nat) (w : World) (e : Ending) (w' : World) : Prop := ∃ gd, e = .returned (.tuple #[.pointer (some ⟨gd, 0, none⟩), .int .i64 0]) ∧ DocAt w' gd lim 0 0 (fun _ => (0, false, 0)) ∧ Ext w w' ∧ gd = w.heap.size
set_option maxHeartbeats 1000000 in
set_option maxRecDepth 100000 in
theorem docnew_ok (lim : Nat) (w : World) (h : (lim : Int) ≤ 4611686018427387903) : Calls Try.prog 26 #[.int .i64 (lim : Int)] w (DocNewRet lim w) := by
  go_enter Try.func26, Try.ntmps26
  go_wp2_with fail
  refine (rform_ok lim w (by omega) h).mono ?_
  rintro e w1 ⟨rfl, rfl⟩
  go_wp2_with fail
  go_ret2
  refine ⟨w.heap.size, rfl, ⟨zeroCells lim, blk_new w (.cells (zeroCells lim) 86 (0, 0)), rfl, rfl, rfl, rfl, fun i hi => zero_get lim hi⟩, (Ext.refl w).alloc _, rfl⟩
theorem docnew_bad (lim : Int) (w : World) (h : lim < 0 ∨ 4611686018427387903 < lim) : Calls Try.prog 26 #[.int .i64 lim] w fun e w' => e = .returned (.tuple #[.pointer none, .int .i64 1]) ∧ w = w' := by
  have HB := Lib.hid h
  clear h
  go_enter Try.func26, Try.ntmps26
  go_wp2_with fail
  refine (rform_bad lim w HB.out).mono ?_
  rintro e w1 ⟨rfl, rfl⟩
  go_wp2_with fail
  go_ret2
  exact ⟨rfl, rfl⟩
end Go.Proofs.Ytfjgpeffhbfihaa
