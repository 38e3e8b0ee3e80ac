/- mach: the document's first example; a machine that the call made. -/
import Derived.Test.YtfjgpeffhbfihaaMchD
namespace Go.Proofs.Ytfjgpeffhbfihaa
open Go.RowKit

/-- a machine that this call made: nothing of before has turned -/
def MachIn (w0 : World) (g : Nat) (ws : List Nat) (clk : Int) (L : List AccE) (w : World) : Prop := ∃ F, MachAt w F g ws clk L ∧ Ext w0 w ∧ ∀ i, F i → w0.heap.size ≤ i
theorem MachIn.go {w0 w w' : World} {F : Nat → Prop} {g : Nat} {ws : List Nat} {clk : Int} {L : List AccE} (x : Ext w0 w) (hf : ∀ i, F i → w0.heap.size ≤ i) (k : MachGo w F g ws clk L w') : MachIn w0 g ws clk L w' := by
  obtain ⟨F', k1, k2, k3⟩ := k
  refine ⟨F', k1, k2.to_ext x hf, fun i hi => ?_⟩
  rcases k3 i hi with k3 | k3
  · exact hf i k3
  · exact Nat.le_trans x.size k3
theorem MachIn.ext {w0 w w' : World} {g : Nat} {ws : List Nat} {clk : Int} {L : List AccE} (h : MachIn w0 g ws clk L w) (x : Ext w w') : MachIn w0 g ws clk L w' := by
  obtain ⟨F, h1, h2, h3⟩ := h
  exact ⟨F, h1.ext x, h2.trans x, h3⟩
theorem MachIn.of_new {w0 w : World} {n : Nat} {e : Ending} {w' : World} (x : Ext w0 w) (h : MachNew n w e w') : ∃ g, e = .returned (.tuple #[.pointer (some ⟨g, 0, none⟩), .int .i64 0]) ∧ MachIn w0 g (List.replicate n 0) 0 [] w' ∧ w0.heap.size ≤ g := by
  obtain ⟨g, F, h1, h2, h3, h4, h5⟩ := h
  exact ⟨g, h1, ⟨F, h2, x.trans h3, fun i hi => Nat.le_trans x.size (h4 i hi)⟩, Nat.le_trans x.size h5⟩
set_option maxHeartbeats 800000 in
theorem machAwake (w : World) : Calls Try.prog 10 #[] w fun e w' => e = .returned (.bool true) ∧ Ext w w' := by
  go_enter Try.func10, Try.ntmps10
  go_wp2_with fail
  refine (mnew_ok 2 w (by omega) (by omega)).mono ?_
  intro e w1 hn
  obtain ⟨g, rfl, ⟨F1, m1, x1, f1⟩, _⟩ := MachIn.of_new (Ext.refl w) hn
  clear hn
  go_wp2_with fail
  refine (swap_hit w1 F1 g (List.replicate 2 0) 0 [] 0 1 0 7 m1 (by simp) (by omega) (by omega) rfl).mono ?_
  rintro e w2 ⟨rfl, hg⟩
  obtain ⟨F2, m2, x2, f2⟩ := MachIn.go x1 f1 hg
  clear hg
  go_wp2_with fail
  refine (load_ok w2 F2 g _ 0 _ 3 1 7 m2 (by simp) (by omega) (by omega) rfl).mono ?_
  rintro e w3 ⟨rfl, hg⟩
  obtain ⟨F3, m3, x3, f3⟩ := MachIn.go x2 f2 hg
  clear hg
  go_wp2_with fail
  refine (swap_miss w3 F3 g _ 0 _ 0 1 7 0 9 m3 (by simp) (by omega) (by omega) rfl (by omega)).mono ?_
  rintro e w4 ⟨rfl, hg⟩
  obtain ⟨F4, m4, x4, f4⟩ := MachIn.go x3 f3 hg
  clear hg
  go_wp2_with fail
  refine (mcount_any w4 F4 g _ 0 _ m4).mono ?_
  rintro e w5 ⟨rfl, rfl⟩
  go_wp2_with fail
  go_ret
  exact ⟨rfl, x4⟩
end Go.Proofs.Ytfjgpeffhbfihaa
