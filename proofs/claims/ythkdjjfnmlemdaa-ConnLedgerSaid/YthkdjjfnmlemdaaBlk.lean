/- Blocks of memory: small lemmas. No program in sight. -/
import Derived.Test.YthkdjjfnmlemdaaBase3
namespace Go.Proofs.Ythkdjjfnmlemdaa
open Go.RowKit
theorem blk_cell {w : World} {g : Nat} {t : TypeId} {cs : Array Value} (h : w.heap[g]? = some (.cells cs t (0, 0))) (i : Nat) : w.cell? ⟨g, i, none⟩ = cs[i]? := cell_of_row w g i cs t (0, 0) h
theorem blk_frozen {w : World} {g : Nat} {t : TypeId} {cs : Array Value} (h : w.heap[g]? = some (.cells cs t (0, 0))) (i : Nat) : w.frozen? ⟨g, i, none⟩ = false := frozen_of_row w g i cs t h
theorem blk_lt {w : World} {g : Nat} {o : Obj} (h : w.heap[g]? = some o) : g < w.heap.size := (Array.getElem?_eq_some_iff.1 h).1
theorem blk_set {w : World} {g : Nat} {t : TypeId} {cs : Array Value} (h : w.heap[g]? = some (.cells cs t (0, 0))) (i : Nat) (u : Value) : (w.setCell ⟨g, i, none⟩ u).heap[g]? = some (.cells (cs.setIfInBounds i u) t (0, 0)) := heap_setCell_same w g i cs t u h
theorem cell_past {w : World} {p : Addr} {v : Value} (h : w.cell? p = some v) (o : Obj) : (w.alloc o).cell? p = some v := (World.cell?_alloc_lt w o p (World.block_lt_of_cell? w p h)).trans h
theorem frozen_past {w : World} {p : Addr} (hlt : p.block < w.heap.size) (h : w.frozen? p = false) (o : Obj) : (w.alloc o).frozen? p = false := (World.frozen?_alloc_old w o p (Nat.ne_of_lt hlt)).trans h
theorem blk_past {w : World} {g : Nat} {o : Obj} (h : w.heap[g]? = some o) (o' : Obj) : (w.alloc o').heap[g]? = some o := (Below.heap_alloc w o' g (blk_lt h)).trans h
theorem blk_new (w : World) (o : Obj) : (w.alloc o).heap[w.heap.size]? = some o := heap_alloc_new w o
theorem grown_set (w : World) (g i : Nat) (u : Value) : w.grownBy (w.setCell ⟨g, i, none⟩ u) (some g) :=
  ⟨rfl, rfl, rfl, by simp, fun k _ hk => heap_setCell_other w ⟨g, i, none⟩ k u (fun e => hk (by simp [e]))⟩
theorem grown_alloc {w a : World} {row : Option Nat} (h : w.grownBy a row) (o : Obj) : w.grownBy (a.alloc o) row := World.grown_trans h (World.grownBy_alloc a o row)
theorem grown_setCell {w a : World} {g : Nat} (h : w.grownBy a (some g)) (i : Nat) (u : Value) : w.grownBy (a.setCell ⟨g, i, none⟩ u) (some g) := World.grown_trans h (grown_set a g i u)
theorem grown_ext {w a b : World} {row : Option Nat} (h : w.grownBy a row) (k : Ext a b) : w.grownBy b row :=
  ⟨k.os.trans h.os, k.tape.trans h.tape, k.output.trans h.output, Nat.le_trans h.size k.size, fun i hi hne => (k.block i (Nat.lt_of_lt_of_le hi h.size)).trans (h.block i hi hne)⟩
theorem blk_ext {w a : World} {g : Nat} {o : Obj} (h : w.heap[g]? = some o) (k : Ext w a) : a.heap[g]? = some o := (k.block g (blk_lt h)).trans h
theorem grown_none {a b : World} (h : Ext a b) (row : Option Nat) : a.grownBy b row := ⟨h.os, h.tape, h.output, h.size, fun i hi _ => h.block i hi⟩
theorem blk_grown {w w' : World} {g r : Nat} {o : Obj} (h : w.heap[g]? = some o) (hg : w.grownBy w' (some r)) (hne : g ≠ r) : w'.heap[g]? = some o :=
  (hg.block g (blk_lt h) (fun e => hne (by injection e))).trans h
theorem fz_past {w : World} {g : Nat} {t : TypeId} {cs : Array Value} (h : w.heap[g]? = some (.cells cs t (0, 0))) (i : Nat) (o : Obj) : (w.alloc o).frozen? ⟨g, i, none⟩ = false := frozen_past (p := ⟨g, i, none⟩) (blk_lt h) (blk_frozen h i) o
theorem grown_drew {w a : World} {row : Option Nat} (h : w.grownBy a row) : w.grownBy a.drew row := ⟨h.os, h.tape, h.output, h.size, h.block⟩
theorem grown_undrew {w a : World} {row : Option Nat} (h : w.drew.grownBy a row) : w.grownBy a row := ⟨h.os, h.tape, h.output, h.size, h.block⟩
theorem grown_new {w a b : World} {row : Option Nat} (h : w.grownBy a row) {g : Nat} (hg : a.grownBy b (some g)) (hge : w.heap.size ≤ g) : w.grownBy b row :=
  ⟨hg.os.trans h.os, hg.tape.trans h.tape, hg.output.trans h.output, Nat.le_trans h.size hg.size, fun i hi hne => (hg.block i (Nat.lt_of_lt_of_le hi h.size) (fun e => by injection e with e; omega)).trans (h.block i hi hne)⟩
theorem own_ne {w : World} {B g n c : Nat} {e : TypeId} {A : Option Addr} {xs : List Value} (h : w.ownsRow B e 1 (.slice A n c) n xs) (hg : g < B) : (Value.slice A n c).ownBlock = none ∨ (Value.slice A n c).ownBlock ≠ some g := by
  cases hA : (Value.slice A n c).ownBlock with
  | none => exact .inl rfl
  | some q => exact .inr fun e => by injection e with e; have := own_ge h q hA; omega
theorem drew_cell {w : World} {p : Addr} {v : Value} (h : w.cell? p = some v) : w.drew.cell? p = some v := h
theorem ext_cell {w w' : World} {p : Addr} {v : Value} (h : Ext w w') (hc : w.cell? p = some v) : w'.cell? p = some v := (h.cell (World.block_lt_of_cell? w p hc)).trans hc
theorem ext_back {a b c : World} (h2 : Ext b c) (h1 : Ext a b) : Ext a c := h1.trans h2
theorem ext_grown {w W w2 : World} {g : Nat} (h : Ext w W) (hG : W.grownBy w2 (some g)) (hg : w.heap.size ≤ g) : Ext w w2 := h.grown hG (fun k hk => by injection hk with hk; omega)
theorem results_row_tmp {P : Program} {fn : Func} {p u : Tmp} {ty : TypeId} (h : fn.results = #[.cell p ty, .tmp u]) (tmps : Array Value) (w : World) (g : Nat) (t : TypeId) (cs : Array Value) (fr : Nat × Nat) (d : TypeDesc)
    (hp : tmps.getD p undef = .pointer (some ⟨g, 0, none⟩)) (hg : w.heap[g]? = some (.cells cs t fr))
    (hu : P.underlying ty = some d) (hd : (match d with | .struct _ | .array _ _ => true | _ => false) = true) (hi : (P.info? ty).map (·.size) = some cs.size) :
    (results fn tmps).run P w = .ok (.tuple #[.agg cs, tmps.getD u undef]) w := by
  rw [results_cell_tmp h, hp]
  simp [asAddr, run_loadVar_row w g t ty cs fr d hg hu hd hi, Result.andThen]
theorem grown2 (w : World) (g : Nat) (a b : Value) : w.grownBy ((w.setCell ⟨g, 0, none⟩ a).setCell ⟨g, 1, none⟩ b) (some g) := grown_setCell (grown_set w g 0 a) 1 b
theorem row2 {w : World} {g : Nat} {x y : Value} {t : TypeId} (h : w.heap[g]? = some (.cells #[x, y] t (0, 0))) (a b : Value) : ((w.setCell ⟨g, 0, none⟩ a).setCell ⟨g, 1, none⟩ b).heap[g]? = some (.cells #[a, b] t (0, 0)) := blk_set (blk_set h 0 a) 1 b
theorem ext_row2 {w w2 : World} {g : Nat} (h : Ext w w2) (hg : w.heap.size ≤ g) (a b : Value) : Ext w ((w2.setCell ⟨g, 0, none⟩ a).setCell ⟨g, 1, none⟩ b) := ext_grown h (grown2 w2 g a b) hg
theorem own_row2 {w : World} {B g n c : Nat} {e : TypeId} {A : Option Addr} {xs : List Value} (h : w.ownsRow B e 1 (.slice A n c) n xs) (hg : g < B) (x y : Value) : ((w.setCell ⟨g, 0, none⟩ x).setCell ⟨g, 1, none⟩ y).ownsRow g e 1 (.slice A n c) n xs :=
  own_base (h.kept (grown2 w g x y) (own_ne h hg)) (Nat.le_of_lt hg)
theorem cell_other {w : World} {p : Addr} {v : Value} {g i : Nat} {u : Value} (h : w.cell? p = some v) (hne : p.block ≠ g) : (w.setCell ⟨g, i, none⟩ u).cell? p = some v := (World.cell?_setCell_other _ _ _ _ (fun e => hne (by rw [← e]))).trans h
theorem own_not {w : World} {B n c vb : Nat} {e : TypeId} {A : Option Addr} {xs : List Value} (h : w.ownsRow B e 1 (.slice A n c) n xs) (hv : vb < B ∨ w.heap.size ≤ vb) : (Value.slice A n c).ownBlock ≠ some vb := fun e => by
  have := h.lt vb e
  omega
theorem row3 {w : World} {g : Nat} {x y z : Value} {t : TypeId} (h : w.heap[g]? = some (.cells #[x, y, z] t (0, 0))) (a b c : Value) : (((w.setCell ⟨g, 0, none⟩ a).setCell ⟨g, 1, none⟩ b).setCell ⟨g, 2, none⟩ c).heap[g]? = some (.cells #[a, b, c] t (0, 0)) := blk_set (blk_set (blk_set h 0 a) 1 b) 2 c
theorem row4 {w : World} {g : Nat} {x y z v : Value} {t : TypeId} (h : w.heap[g]? = some (.cells #[x, y, z, v] t (0, 0))) (a b c d : Value) : ((((w.setCell ⟨g, 0, none⟩ a).setCell ⟨g, 1, none⟩ b).setCell ⟨g, 2, none⟩ c).setCell ⟨g, 3, none⟩ d).heap[g]? = some (.cells #[a, b, c, d] t (0, 0)) := blk_set (blk_set (blk_set (blk_set h 0 a) 1 b) 2 c) 3 d
end Go.Proofs.Ythkdjjfnmlemdaa
