/- EpochSafe: the reader's struct in memory. -/
import Derived.Test.YtlgggeeflomelaaEpN
import Derived.Test.YtlgggeeflomelaaEpSafe3
import Derived.Test.YtlgggeeflomelaaOwnI
namespace Go.Proofs.Ytlgggeeflomelaa
open Go.RowKit

def wtCells (t : Wt) (vg vk : Value) : List Value := vals .u8 t.ops ++ (vals .i64 t.begun ++ (vals .i64 t.pins ++ [vg, vk, .int .i64 (t.time : Int)]))
/-- the struct, and its two rows -/
structure WtM (base tb : Nat) (t : Wt) (n : Nat) (vg vk : Value) (w : World) : Prop where
  l1 : t.ops.length = 4
  l2 : t.begun.length = 4
  l3 : t.pins.length = 4
  lg : t.given.length = n
  blk : w.heap[tb]? = some (.cells (wtCells t vg vk).toArray 63 (0, 0))
  og : w.ownsRow base 3 1 vg n (vals .i64 t.given)
  ok : w.ownsRow base 3 1 vk n (vals .i64 t.taken)
  ge : base ≤ tb
  ng : vg.ownBlock ≠ some tb
  nk : vk.ownBlock ≠ some tb
  ngk : ∀ q, vg.ownBlock = some q → vk.ownBlock ≠ some q
/-- its blocks -/
def WtB (tb : Nat) (vg vk : Value) (i : Nat) : Prop := i = tb ∨ vg.ownBlock = some i ∨ vk.ownBlock = some i
variable {base tb n : Nat} {t : Wt} {vg vk : Value} {w w' : World}
theorem WtM.gb {S : Nat → Prop} (h : WtM base tb t n vg vk w) (g : GB w w' S) (hs : ∀ i, WtB tb vg vk i → ¬ S i) : WtM base tb t n vg vk w' :=
  ⟨h.l1, h.l2, h.l3, h.lg, g.blk h.blk (hs _ (.inl rfl)), g.own h.og (fun q e => hs q (.inr (.inl e))), g.own h.ok (fun q e => hs q (.inr (.inr e))), h.ge, h.ng, h.nk, h.ngk⟩
theorem WtM.ext (h : WtM base tb t n vg vk w) (x : Ext w w') : WtM base tb t n vg vk w' := h.gb (GB.of_ext (fun _ => False) x) (fun _ _ => id)
theorem WtM.lt (h : WtM base tb t n vg vk w) : ∀ i, WtB tb vg vk i → i < w.heap.size := fun i hi => by
  rcases hi with rfl | hi | hi
  · exact blk_lt h.blk
  · exact (h.og.lt i hi).2
  · exact (h.ok.lt i hi).2
theorem WtM.bge (h : WtM base tb t n vg vk w) : ∀ i, WtB tb vg vk i → base ≤ i := fun i hi => by
  rcases hi with rfl | hi | hi
  · exact h.ge
  · exact (h.og.lt i hi).1
  · exact (h.ok.lt i hi).1
theorem WtM.at_ (h : WtM base tb t n vg vk w) (i : Nat) : w.cell? ⟨tb, i, none⟩ = (wtCells t vg vk)[i]? := (blk_cell h.blk i).trans (by rw [List.getElem?_toArray])
theorem getD_some {l : List Nat} {i : Nat} (h : i < l.length) : l[i]? = some (l.getD i 0) := by simp [h]
theorem WtM.frz (h : WtM base tb t n vg vk w) (i : Nat) : w.frozen? ⟨tb, i, none⟩ = false := blk_frozen h.blk i
theorem WtM.cOps (h : WtM base tb t n vg vk w) {d : Nat} (hd : d < 4) : w.cell? ⟨tb, d, none⟩ = some (.int .u8 ((t.ops.getD d 0 : Nat) : Int)) := by
  rw [h.at_]
  unfold wtCells
  rw [List.getElem?_append_left (by rw [vals_len, h.l1]; exact hd)]
  exact vals_get (getD_some (by rw [h.l1]; exact hd))
theorem WtM.cBegun (h : WtM base tb t n vg vk w) {d : Nat} (hd : d < 4) : w.cell? ⟨tb, 4 + d, none⟩ = some (.int .i64 ((t.begun.getD d 0 : Nat) : Int)) := by
  rw [h.at_]
  unfold wtCells
  rw [List.getElem?_append_right (by rw [vals_len, h.l1]; omega), vals_len, h.l1, Nat.add_sub_cancel_left, List.getElem?_append_left (by rw [vals_len, h.l2]; exact hd)]
  exact vals_get (getD_some (by rw [h.l2]; exact hd))
theorem WtM.cPins (h : WtM base tb t n vg vk w) {d : Nat} (hd : d < 4) : w.cell? ⟨tb, 8 + d, none⟩ = some (.int .i64 ((t.pins.getD d 0 : Nat) : Int)) := by
  rw [h.at_]
  unfold wtCells
  rw [List.getElem?_append_right (by rw [vals_len, h.l1]; omega), vals_len, h.l1, List.getElem?_append_right (by rw [vals_len, h.l2]; omega), vals_len, h.l2, show 8 + d - 4 - 4 = d by omega, List.getElem?_append_left (by rw [vals_len, h.l3]; exact hd)]
  exact vals_get (getD_some (by rw [h.l3]; exact hd))
theorem WtM.tail (h : WtM base tb t n vg vk w) (i : Nat) : w.cell? ⟨tb, 12 + i, none⟩ = [vg, vk, .int .i64 (t.time : Int)][i]? := by
  rw [h.at_]
  unfold wtCells
  rw [List.getElem?_append_right (by rw [vals_len, h.l1]; omega), vals_len, h.l1, List.getElem?_append_right (by rw [vals_len, h.l2]; omega), vals_len, h.l2, List.getElem?_append_right (by rw [vals_len, h.l3]; omega), vals_len, h.l3, show 12 + i - 4 - 4 - 4 = i by omega]
theorem WtM.c12 (h : WtM base tb t n vg vk w) : w.cell? ⟨tb, 12, none⟩ = some vg := h.tail 0
theorem WtM.c13 (h : WtM base tb t n vg vk w) : w.cell? ⟨tb, 13, none⟩ = some vk := h.tail 1
theorem WtM.c14 (h : WtM base tb t n vg vk w) : w.cell? ⟨tb, 14, none⟩ = some (.int .i64 (t.time : Int)) := h.tail 2
/-- a cell of the struct is stored -/
theorem WtM.put {t' : Wt} (h : WtM base tb t n vg vk w) (i : Nat) (u : Value) (l1 : t'.ops.length = 4) (l2 : t'.begun.length = 4) (l3 : t'.pins.length = 4) (hg : t'.given = t.given) (hk : t'.taken = t.taken) (e : (wtCells t vg vk).set i u = wtCells t' vg vk) : WtM base tb t' n vg vk (w.setCell ⟨tb, i, none⟩ u) := by
  have g : GB w (w.setCell ⟨tb, i, none⟩ u) (· = tb) := (GB.refl w (· = tb)).set tb i u (.inl rfl)
  refine ⟨l1, l2, l3, by rw [hg]; exact h.lg, (blk_set h.blk i u).trans ?_, by rw [hg]; exact g.own h.og (fun q e e' => h.ng (e' ▸ e)), by rw [hk]; exact g.own h.ok (fun q e e' => h.nk (e' ▸ e)), h.ge, h.ng, h.nk, h.ngk⟩
  rw [← e]
  simp
theorem WtM.gbp (i : Nat) (u : Value) : GB w (w.setCell ⟨tb, i, none⟩ u) (WtB tb vg vk) := (GB.refl w _).set tb i u (.inl (.inl rfl))
theorem WtM.putOps (h : WtM base tb t n vg vk w) {d : Nat} (hd : d < 4) (x : Nat) : WtM base tb { t with ops := t.ops.set d x } n vg vk (w.setCell ⟨tb, d, none⟩ (.int .u8 (x : Int))) := by
  refine h.put d _ (by simp [h.l1]) h.l2 h.l3 rfl rfl ?_
  unfold wtCells
  rw [List.set_append_left _ _ (by rw [vals_len, h.l1]; exact hd), vals_set]
theorem WtM.putBegun (h : WtM base tb t n vg vk w) {d : Nat} (hd : d < 4) (x : Nat) : WtM base tb { t with begun := t.begun.set d x } n vg vk (w.setCell ⟨tb, 4 + d, none⟩ (.int .i64 (x : Int))) := by
  refine h.put (4 + d) _ h.l1 (by simp [h.l2]) h.l3 rfl rfl ?_
  unfold wtCells
  rw [List.set_append_right _ _ (by rw [vals_len, h.l1]; omega), vals_len, h.l1, Nat.add_sub_cancel_left, List.set_append_left _ _ (by rw [vals_len, h.l2]; exact hd), vals_set]
theorem WtM.putPins (h : WtM base tb t n vg vk w) {d : Nat} (hd : d < 4) (x : Nat) : WtM base tb { t with pins := t.pins.set d x } n vg vk (w.setCell ⟨tb, 8 + d, none⟩ (.int .i64 (x : Int))) := by
  refine h.put (8 + d) _ h.l1 h.l2 (by simp [h.l3]) rfl rfl ?_
  unfold wtCells
  rw [List.set_append_right _ _ (by rw [vals_len, h.l1]; omega), vals_len, h.l1, List.set_append_right _ _ (by rw [vals_len, h.l2]; omega), vals_len, h.l2, show 8 + d - 4 - 4 = d by omega, List.set_append_left _ _ (by rw [vals_len, h.l3]; exact hd), vals_set]
theorem set_tail (t : Wt) (h : WtM base tb t n vg vk w) (i : Nat) (u : Value) : (wtCells t vg vk).set (12 + i) u = vals .u8 t.ops ++ (vals .i64 t.begun ++ (vals .i64 t.pins ++ [vg, vk, .int .i64 (t.time : Int)].set i u)) := by
  unfold wtCells
  rw [List.set_append_right _ _ (by rw [vals_len, h.l1]; omega), vals_len, h.l1, List.set_append_right _ _ (by rw [vals_len, h.l2]; omega), vals_len, h.l2, List.set_append_right _ _ (by rw [vals_len, h.l3]; omega), vals_len, h.l3, show 12 + i - 4 - 4 - 4 = i by omega]
theorem WtM.putTime (h : WtM base tb t n vg vk w) (x : Nat) : WtM base tb { t with time := x } n vg vk (w.setCell ⟨tb, 14, none⟩ (.int .i64 (x : Int))) :=
  h.put 14 _ h.l1 h.l2 h.l3 rfl rfl (set_tail t h 2 _)
/-- both rows are others now -/
theorem WtM.putRows {vg' vk' : Value} {n' : Nat} {gv tk : List Nat} {S : Nat → Prop} (h : WtM base tb t n vg vk w) (g : GB w w' S) (hS : ¬ S tb) (hn : gv.length = n') (og : w'.ownsRow base 3 1 vg' n' (vals .i64 gv)) (ok : w'.ownsRow base 3 1 vk' n' (vals .i64 tk))
    (ng : vg'.ownBlock ≠ some tb) (nk : vk'.ownBlock ≠ some tb) (ngk : ∀ q, vg'.ownBlock = some q → vk'.ownBlock ≠ some q) :
    WtM base tb { t with given := gv, taken := tk } n' vg' vk' ((w'.setCell ⟨tb, 12, none⟩ vg').setCell ⟨tb, 13, none⟩ vk') := by
  have g1 : GB w' ((w'.setCell ⟨tb, 12, none⟩ vg').setCell ⟨tb, 13, none⟩ vk') (· = tb) := ((GB.refl w' (· = tb)).set tb 12 vg' (.inl rfl)).set tb 13 vk' (.inl rfl)
  have b1 := blk_set (blk_set (g.blk h.blk hS) 12 vg') 13 vk'
  refine ⟨h.l1, h.l2, h.l3, hn, b1.trans ?_, g1.own og (fun q e e' => ng (e' ▸ e)), g1.own ok (fun q e e' => nk (e' ▸ e)), h.ge, ng, nk, ngk⟩
  congr 2
  apply Array.ext'
  simp only [Array.toList_setIfInBounds]
  rw [set_tail t h 0]
  have e : wtCells t vg' vk = vals .u8 t.ops ++ (vals .i64 t.begun ++ (vals .i64 t.pins ++ [vg, vk, .int .i64 (t.time : Int)].set 0 vg')) := rfl
  rw [← e]
  unfold wtCells
  rw [List.set_append_right _ _ (by rw [vals_len, h.l1]; omega), vals_len, h.l1, List.set_append_right _ _ (by rw [vals_len, h.l2]; omega), vals_len, h.l2, List.set_append_right _ _ (by rw [vals_len, h.l3]; omega), vals_len, h.l3]
  rfl
/-- an element of a row of one's own -/
theorem own_elem {v : Value} {xs : List Nat} (h : w.ownsRow base 3 1 v n (vals .i64 xs)) {m : Nat} (hm : m < n) :
    ∃ g c, v = .slice (some ⟨g, 0, none⟩) n c ∧ n ≤ c ∧ w.cell? ⟨g, m, none⟩ = some (.int .i64 ((xs.getD m 0 : Nat) : Int)) ∧ w.frozen? ⟨g, m, none⟩ = false := by
  have hl := h.1
  rw [vals_len] at hl
  rcases h.2 with ⟨_, e⟩ | ⟨g, cap, cur, rfl, _, hg, hnc, _⟩
  · omega
  · refine ⟨g, cap, rfl, hnc, ?_, blk_frozen hg m⟩
    rw [World.ownsRow.cellAt h m (by omega)]
    exact vals_get (getD_some (by omega))
theorem WtM.putGiven {g c : Nat} (h : WtM base tb t n (.slice (some ⟨g, 0, none⟩) n c) vk w) (m x : Nat) : WtM base tb { t with given := t.given.set m x } n (.slice (some ⟨g, 0, none⟩) n c) vk (w.setCell ⟨g, m, none⟩ (.int .i64 (x : Int))) := by
  obtain ⟨o1, _⟩ := h.og.stored m (.int .i64 (x : Int))
  have gb : GB w (w.setCell ⟨g, m, none⟩ (.int .i64 (x : Int))) (· = g) := (GB.refl w (· = g)).set g m _ (.inl rfl)
  have hb : (Value.slice (some ⟨g, 0, none⟩) n c).ownBlock = some g := rfl
  refine ⟨h.l1, h.l2, h.l3, by simpa using h.lg, gb.blk h.blk (fun e => h.ng (by rw [hb, e])), by rw [vals_set]; exact o1, gb.own h.ok (fun q e e' => h.ngk g hb (e' ▸ e)), h.ge, h.ng, h.nk, h.ngk⟩
theorem WtM.putTaken {g c : Nat} (h : WtM base tb t n vg (.slice (some ⟨g, 0, none⟩) n c) w) (m x : Nat) : WtM base tb { t with taken := t.taken.set m x } n vg (.slice (some ⟨g, 0, none⟩) n c) (w.setCell ⟨g, m, none⟩ (.int .i64 (x : Int))) := by
  obtain ⟨o1, _⟩ := h.ok.stored m (.int .i64 (x : Int))
  have gb : GB w (w.setCell ⟨g, m, none⟩ (.int .i64 (x : Int))) (· = g) := (GB.refl w (· = g)).set g m _ (.inl rfl)
  have hb : (Value.slice (some ⟨g, 0, none⟩) n c).ownBlock = some g := rfl
  refine ⟨h.l1, h.l2, h.l3, h.lg, gb.blk h.blk (fun e => h.nk (by rw [hb, e])), gb.own h.og (fun q e e' => h.ngk q e (by rw [hb, e'])), by rw [vals_set]; exact o1, h.ge, h.ng, h.nk, h.ngk⟩
end Go.Proofs.Ytlgggeeflomelaa
