/- Captured boxes; results in cells; small lemmas about cells. -/
import Derived.Test.YtlgggeeflomelaaMchW
import Derived.Laws.EntriesVeiled
namespace Go.Proofs.Ytlgggeeflomelaa
open Go.RowKit

theorem results_tmp_cell {fn : Func} {p u : Tmp} {ty : TypeId} (h : fn.results = #[.tmp u, .cell p ty]) (tmps : Array Value) (P : Program) (w : World) :
    (results fn tmps).run P w = ((asAddr (tmps.getD p undef)).run P w).andThen fun a w => ((loadVar ty a).run P w).andThen fun v w => .ok (.tuple #[tmps.getD u undef, v]) w := by
  simp [results, h, Result.andThen]
theorem results_tmp_row {P : Program} {fn : Func} {p u : Tmp} {ty : TypeId} (h : fn.results = #[.tmp u, .cell p ty]) (tmps : Array Value) (w : World) (g : Nat) (t : TypeId) (cs : Array Value) (fr : Nat × Nat) (d : TypeDesc)
    (hp : tmps.getD p undef = .pointer (some ⟨g, 0, none⟩)) (hg : w.heap[g]? = some (.cells cs t fr))
    (hu : P.underlying ty = some d) (hd : (match d with | .struct _ | .array _ _ => true | _ => false) = true) (hi : (P.info? ty).map (·.size) = some cs.size) :
    (results fn tmps).run P w = .ok (.tuple #[tmps.getD u undef, .agg cs]) w := by
  rw [results_tmp_cell h, hp]
  simp [asAddr, run_loadVar_row w g t ty cs fr d hg hu hd hi, Result.andThen]
theorem hmfC : ∀ (fn : Fn) (first cap : Array Value) (w : World), (Instr.makeFunc fn first cap).run Try.prog w = .ok (.func fn first cap) w := fun _ _ _ _ => rfl
theorem MachAt.lt {w : World} {F : Nat → Prop} {g : Nat} {ws : List Nat} {clk : Int} {L : List AccE} (h : MachAt w F g ws clk L) : ∀ i, F i → i < w.heap.size := by
  obtain ⟨_, _, _, _, _, _, _, _, _, _, _, _, _, _, _, hlt⟩ := h
  exact hlt
theorem row3 {w : World} {g : Nat} {x y z : Value} {t : TypeId} (h : w.heap[g]? = some (.cells #[x, y, z] t (0, 0))) (a b c : Value) : (((w.setCell ⟨g, 0, none⟩ a).setCell ⟨g, 1, none⟩ b).setCell ⟨g, 2, none⟩ c).heap[g]? = some (.cells #[a, b, c] t (0, 0)) := blk_set (blk_set (blk_set h 0 a) 1 b) 2 c
theorem row4 {w : World} {g : Nat} {x y z v : Value} {t : TypeId} (h : w.heap[g]? = some (.cells #[x, y, z, v] t (0, 0))) (a b c d : Value) : ((((w.setCell ⟨g, 0, none⟩ a).setCell ⟨g, 1, none⟩ b).setCell ⟨g, 2, none⟩ c).setCell ⟨g, 3, none⟩ d).heap[g]? = some (.cells #[a, b, c, d] t (0, 0)) := blk_set (blk_set (blk_set (blk_set h 0 a) 1 b) 2 c) 3 d
/-- four stores into a block that is new -/
def put4 (w : World) (g : Nat) (a b c d : Value) : World := (((w.setCell ⟨g, 0, none⟩ a).setCell ⟨g, 1, none⟩ b).setCell ⟨g, 2, none⟩ c).setCell ⟨g, 3, none⟩ d
theorem put4_gb (w : World) (g : Nat) (a b c d : Value) : GB w (put4 w g a b c d) (· = g) := ((((GB.refl w (· = g)).set g 0 a (.inl rfl)).set g 1 b (.inl rfl)).set g 2 c (.inl rfl)).set g 3 d (.inl rfl)
theorem cell_off {w : World} {g i j : Nat} {v u : Value} (h : w.cell? ⟨g, i, none⟩ = some v) (hne : i ≠ j) : (w.setCell ⟨g, j, none⟩ u).cell? ⟨g, i, none⟩ = some v := (World.cell?_setCell_other _ _ _ _ (by intro e; apply hne; have h := congrArg Addr.off e; simp at h; omega)).trans h
theorem frz_ext {w w' : World} {p : Addr} {v : Value} (x : Ext w w') (h : w.cell? p = some v) (hf : w.frozen? p = false) : w'.frozen? p = false := (x.frozen (World.block_lt_of_cell? w p h)).trans hf
/-- what was captured: a box of F that is none of the blocks C that are written -/
def BoxAt (w : World) (C F : Nat → Prop) (p v : Value) : Prop := ∃ b t, p = .pointer (some ⟨b, 0, none⟩) ∧ w.heap[b]? = some (.cells #[v] t (0, 0)) ∧ ¬ C b ∧ F b
theorem BoxAt.gb {w w' : World} {C F C' F' S : Nat → Prop} {p v : Value} (h : BoxAt w C F p v) (k : GB w w' S) (hs : ∀ i, S i → C i ∨ ¬ F i ∨ w.heap.size ≤ i) (hc : ∀ i, i < w.heap.size → C' i → C i ∨ ¬ F i) (hf : ∀ i, F i → F' i) : BoxAt w' C' F' p v := by
  obtain ⟨b, t, h1, h2, h3, h4⟩ := h
  have hb := blk_lt h2
  refine ⟨b, t, h1, k.blk h2 (fun e => ?_), fun e => ?_, hf b h4⟩
  · rcases hs b e with h | h | h
    · exact h3 h
    · exact h h4
    · omega
  · rcases hc b hb e with h | h
    · exact h3 h
    · exact h h4
theorem BoxAt.cell {w : World} {C F : Nat → Prop} {p v : Value} (h : BoxAt w C F p v) : ∃ b, p = .pointer (some ⟨b, 0, none⟩) ∧ w.cell? ⟨b, 0, none⟩ = some v ∧ ¬ C b ∧ F b := by
  obtain ⟨b, t, h1, h2, h3, h4⟩ := h
  exact ⟨b, h1, blk_cell h2 0, h3, h4⟩
theorem GB.cell' {w a : World} {S : Nat → Prop} (h : GB w a S) {b i : Nat} {v : Value} (hc : w.cell? ⟨b, i, none⟩ = some v) (hp : ¬ S b) : a.cell? ⟨b, i, none⟩ = some v := h.cell hc hp
/-- a cell's value, whatever it is: for a cell that a region reads and then stores -/
def cellOr (w : World) (p : Addr) : Value := (w.cell? p).getD undef
theorem cellOr_some {w : World} {p : Addr} {v : Value} (h : w.cell? p = some v) : w.cell? p = some (cellOr w p) := by unfold cellOr; rw [h]; rfl
theorem cellOr_eq {w : World} {p : Addr} {v : Value} (h : w.cell? p = some v) : cellOr w p = v := by unfold cellOr; rw [h]; rfl
end Go.Proofs.Ytlgggeeflomelaa
