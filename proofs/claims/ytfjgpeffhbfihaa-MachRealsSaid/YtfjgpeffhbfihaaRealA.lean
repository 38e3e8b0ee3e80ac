/- mach.Real: the same by Go's atomic words. -/
import Derived.Test.YtfjgpeffhbfihaaMchC
import Derived.Laws.LoneSync
namespace Go.Proofs.Ytfjgpeffhbfihaa
open Go.RowKit

/-- a machine of atomic words in memory; F: its blocks -/
def RealAt (w : World) (F : Nat → Prop) (g : Nat) (ws : List Nat) (clk : Int) : Prop :=
  ∃ gw : Nat, w.heap[g]? = some (.cells #[.slice (some ⟨gw, 0, none⟩) ws.length ws.length, .int .i64 clk] 114 (0, 0)) ∧
    w.heap[gw]? = some (.cells (vals .u64 ws).toArray 140 (0, 0)) ∧ gw < g ∧ F g ∧ F gw ∧ ∀ i, F i → i < w.heap.size
theorem RealAt.gb {w w' : World} {F S : Nat → Prop} {g : Nat} {ws : List Nat} {clk : Int} (h : RealAt w F g ws clk) (k : GB w w' S) (hs : ∀ i, F i → ¬ S i) : RealAt w' F g ws clk := by
  obtain ⟨gw, h1, h2, h3, h4, h5, h6⟩ := h
  exact ⟨gw, k.blk h1 (hs _ h4), k.blk h2 (hs _ h5), h3, h4, h5, fun i hi => Nat.lt_of_lt_of_le (h6 i hi) k.size⟩
theorem RealAt.ext {w w' : World} {F : Nat → Prop} {g : Nat} {ws : List Nat} {clk : Int} (h : RealAt w F g ws clk) (k : Ext w w') : RealAt w' F g ws clk := h.gb (GB.of_ext (fun _ => False) k) (fun _ _ => id)
theorem RealAt.word {w : World} {F : Nat → Prop} {g : Nat} {ws : List Nat} {clk : Int} (h : RealAt w F g ws clk) {i x : Nat} (hx : ws[i]? = some x) :
    ∃ gw, w.cell? ⟨g, 0, none⟩ = some (.slice (some ⟨gw, 0, none⟩) ws.length ws.length) ∧ w.cell? ⟨gw, i, none⟩ = some (.int .u64 (x : Int)) ∧ w.frozen? ⟨gw, i, none⟩ = false ∧
      ∀ y : Nat, RealAt (w.setCell ⟨gw, i, none⟩ (.int .u64 (y : Int))) F g (ws.set i y) clk ∧ GB w (w.setCell ⟨gw, i, none⟩ (.int .u64 (y : Int))) F := by
  obtain ⟨gw, h1, h2, h3, h4, h5, h6⟩ := h
  refine ⟨gw, blk_cell h1 0, (blk_cell h2 i).trans (by simpa using vals_get hx), blk_frozen h2 i, fun y => ⟨⟨gw, ?_, ?_, h3, h4, h5, fun i hi => by simpa using h6 i hi⟩, (GB.refl w F).set gw i _ (.inl h5)⟩⟩
  · rw [List.length_set]
    exact blk_grown h1 (grown_set w gw i _) (by omega)
  · refine (blk_set h2 i _).trans ?_
    rw [vals_set]
    simp
theorem RealAt.clock {w : World} {F : Nat → Prop} {g : Nat} {ws : List Nat} {clk : Int} (h : RealAt w F g ws clk) :
    w.cell? ⟨g, 1, none⟩ = some (.int .i64 clk) ∧ w.frozen? ⟨g, 1, none⟩ = false ∧
      ∀ y : Int, RealAt (w.setCell ⟨g, 1, none⟩ (.int .i64 y)) F g ws y ∧ GB w (w.setCell ⟨g, 1, none⟩ (.int .i64 y)) F := by
  obtain ⟨gw, h1, h2, h3, h4, h5, h6⟩ := h
  exact ⟨blk_cell h1 1, blk_frozen h1 1, fun y => ⟨⟨gw, blk_set h1 1 _, blk_grown h2 (grown_set w g 1 _) (by omega), h3, h4, h5, fun i hi => by simpa using h6 i hi⟩, (GB.refl w F).set g 1 _ (.inl h4)⟩⟩
def RealGo (w : World) (F : Nat → Prop) (g : Nat) (ws : List Nat) (clk : Int) (w' : World) : Prop := RealAt w' F g ws clk ∧ GB w w' F
theorem info_at64 : (Try.prog.info? 140).map (fun i => (i.zero.map (·.cells), i.size, i.bytes)) = some (some #[.int .u64 0], 1, 8) := by kernel_rfl
theorem run_make_at64 (n : Nat) (hn : n ≤ 4096) (w : World) : (Instr.makeSlice 107 (.int .i64 (n : Int)) (.int .i64 (n : Int))).run Try.prog w = .ok (.slice (some ⟨w.heap.size, 0, none⟩) n n) (w.alloc (.cells (madeCells #[.int .u64 0] n) 140)) := by
  obtain ⟨i, hi, hzz⟩ := Option.map_eq_some_iff.1 info_at64
  simp only [Prod.mk.injEq] at hzz
  obtain ⟨hz, hs, hb⟩ := hzz
  obtain ⟨z, hz, hzc⟩ := Option.map_eq_some_iff.1 hz
  have := run_makeSlice (w := w) 107 140 i z Try.underlying107 hi hz .i64 .i64 (n : Int) (n : Int) (by omega) (by omega) (by rw [hs]; omega) (by rw [hb]; omega) (by omega)
  rw [this, hs, hzc]
  simp
def RealNew (n : Nat) (w : World) (e : Ending) (w' : World) : Prop :=
  ∃ g F, e = .returned (.tuple #[.pointer (some ⟨g, 0, none⟩), .int .i64 0]) ∧ RealAt w' F g (List.replicate n 0) 0 ∧ Ext w w' ∧ (∀ i, F i → w.heap.size ≤ i) ∧ w.heap.size ≤ g
theorem plain_ok (n : Nat) (w : World) (h1 : 1 ≤ n) (h2 : n ≤ 4096) : Calls Try.prog 21 #[.int .i64 (n : Int)] w (RealNew n w) := by
  have a1 : ¬ (n : Int) < 1 := by omega
  have a2 : ¬ 4096 < (n : Int) := by omega
  have hmk := run_make_at64 n h2
  go_enter Try.func21, Try.ntmps21
  go_wp2_with fail
  go_ret2
  refine ⟨w.heap.size + 1, fun i => i = w.heap.size ∨ i = w.heap.size + 1, rfl, ⟨w.heap.size, ?_, ?_, by omega, .inr rfl, .inl rfl, fun i hi => ?_⟩, ?_, fun i hi => by omega, by omega⟩
  · rw [List.length_replicate]
    exact blk_newk _ _ (by simp)
  · exact (blk_past (blk_new w _) _).trans (by rw [made_u64])
  · simp; omega
  · exact ((Ext.refl w).alloc _).alloc _
theorem plain_bad (n : Int) (w : World) (h : n < 1 ∨ 4096 < n) : Calls Try.prog 21 #[.int .i64 n] w fun e w' => e = .returned (.tuple #[.pointer none, .int .i64 1]) ∧ w = w' := by
  by_cases h0 : n < 1
  · go_enter Try.func21, Try.ntmps21
    go_wp2
    go_ret2
    exact ⟨rfl, rfl⟩
  · have h1 : 4096 < n := by omega
    go_enter Try.func21, Try.ntmps21
    go_wp2
    go_ret2
    exact ⟨rfl, rfl⟩
theorem realsize_any (w : World) (F : Nat → Prop) (g : Nat) (ws : List Nat) (clk : Int) (h : RealAt w F g ws clk) :
    Calls Try.prog 65 #[.pointer (some ⟨g, 0, none⟩)] w fun e w' => e = .returned (.int .i64 (ws.length : Int)) ∧ w = w' := by
  obtain ⟨gw, h1, _⟩ := h
  have b0 := blk_cell h1 0
  clear h1
  go_enter Try.func65, Try.ntmps65
  go_wp2
  go_ret
  exact ⟨rfl, rfl⟩
theorem realsize_nil (w : World) : Calls Try.prog 65 #[.pointer none] w fun e w' => e = .returned (.int .i64 0) ∧ w = w' := by
  go_enter Try.func65, Try.ntmps65
  go_wp2
  go_ret
  exact ⟨rfl, rfl⟩
theorem u64_load (w : World) (b o : Nat) (x : Int) (h : w.cell? ⟨b, o, none⟩ = some (.int .u64 x)) : Calls Try.prog 66 #[.pointer (some ⟨b, o, none⟩)] w fun e w' => e = .returned (.int .u64 x) ∧ w = w' := by
  have hl := run_call_load (P := Try.prog) Try.func76 (by kernel_rfl) (by kernel_rfl) (by kernel_rfl) .u64 (by kernel_rfl) h
  go_enter Try.func66, Try.ntmps66
  go_wp2
  go_ret
  exact ⟨rfl, rfl⟩
theorem i64_load (w : World) (b o : Nat) (x : Int) (h : w.cell? ⟨b, o, none⟩ = some (.int .i64 x)) : Calls Try.prog 71 #[.pointer (some ⟨b, o, none⟩)] w fun e w' => e = .returned (.int .i64 x) ∧ w = w' := by
  have hl := run_call_load (P := Try.prog) Try.func78 (by kernel_rfl) (by kernel_rfl) (by kernel_rfl) .i64 (by kernel_rfl) h
  go_enter Try.func71, Try.ntmps71
  go_wp2
  go_ret
  exact ⟨rfl, rfl⟩
theorem u64_hit (w : World) (b o : Nat) (x y : Int) (h : w.cell? ⟨b, o, none⟩ = some (.int .u64 x)) (hz : w.frozen? ⟨b, o, none⟩ = false) : Calls Try.prog 69 #[.pointer (some ⟨b, o, none⟩), .int .u64 x, .int .u64 y] w fun e w' => e = .returned (.bool true) ∧ w.setCell ⟨b, o, none⟩ (.int .u64 y) = w' := by
  have hl := run_call_cas_hit (P := Try.prog) Try.func77 (by kernel_rfl) (by kernel_rfl) (by kernel_rfl) .u64 (by kernel_rfl) (y := y) h hz
  go_enter Try.func69, Try.ntmps69
  go_wp2
  go_ret
  exact ⟨rfl, rfl⟩
theorem u64_miss (w : World) (b o : Nat) (x y z : Int) (h : w.cell? ⟨b, o, none⟩ = some (.int .u64 x)) (hz : w.frozen? ⟨b, o, none⟩ = false) (hne : ¬ x = z) : Calls Try.prog 69 #[.pointer (some ⟨b, o, none⟩), .int .u64 z, .int .u64 y] w fun e w' => e = .returned (.bool false) ∧ w = w' := by
  have hl := run_call_cas_miss (P := Try.prog) Try.func77 (by kernel_rfl) (by kernel_rfl) (by kernel_rfl) .u64 (by kernel_rfl) (o := z) (y := y) h hz hne
  go_enter Try.func69, Try.ntmps69
  go_wp2
  go_ret
  exact ⟨rfl, rfl⟩
theorem i64_hit (w : World) (b o : Nat) (x y : Int) (h : w.cell? ⟨b, o, none⟩ = some (.int .i64 x)) (hz : w.frozen? ⟨b, o, none⟩ = false) : Calls Try.prog 73 #[.pointer (some ⟨b, o, none⟩), .int .i64 x, .int .i64 y] w fun e w' => e = .returned (.bool true) ∧ w.setCell ⟨b, o, none⟩ (.int .i64 y) = w' := by
  have hl := run_call_cas_hit (P := Try.prog) Try.func79 (by kernel_rfl) (by kernel_rfl) (by kernel_rfl) .i64 (by kernel_rfl) (y := y) h hz
  go_enter Try.func73, Try.ntmps73
  go_wp2
  go_ret
  exact ⟨rfl, rfl⟩
end Go.Proofs.Ytfjgpeffhbfihaa
