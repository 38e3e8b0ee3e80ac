/- the document's guess: a call with a key: bytes that are too few. -/
import Derived.Test.YtkebkhgjoiiapaaGuess
import Derived.Deep.RegionHeld3
namespace Go.Proofs.Ytkebkhgjoiiapaa
open Go.RowKit

set_option maxHeartbeats 2000000 in
set_option maxRecDepth 100000 in
theorem guess1_few (w : World) (b off n c : Nat) (hn : 1 ≤ n) (c0 : w.cell? ⟨b, off, none⟩ = some (.int .u8 1)) (h : n < 3 ∨ ∃ k : Nat, k < 256 ∧ w.cell? ⟨b, off + 2, none⟩ = some (.int .u8 (k : Int)) ∧ 3 ≤ n ∧ n < 3 + k) :
    Calls Try.prog 73 #[.slice (some ⟨b, off, none⟩) n c] w (RetN w) := by
  have hn0 : ((n : Int) == 0) = false := by rw [beq_eq_false_iff_ne]; omega
  have d0 := cell_past c0
  have d00 := fun o o' => cell_past (d0 o) o'
  clear c0
  rcases h with h | ⟨k, hk, c2, h3, hlt⟩
  · go_enter Try.func73, Try.ntmps73
    go_wp2_with fail
    refine bodyPost_ret (ret_call2 rfl rfl (blk_past (blk_new w _) _)) rfl ?_
    exact ⟨_, _, _, _, _, _, rfl, ((Ext.refl w).alloc _).alloc _⟩
  · have d2 := cell_past c2
    have d22 := fun o o' => cell_past (d2 o) o'
    clear c2
    go_enter Try.func73, Try.ntmps73
    go_wp2_with fail
    refine bodyPost_ret (ret_call2 rfl rfl (blk_past (blk_new w _) _)) rfl ?_
    exact ⟨_, _, _, _, _, _, rfl, ((Ext.refl w).alloc _).alloc _⟩

set_option maxHeartbeats 2000000 in
set_option maxRecDepth 100000 in
theorem guess2_few (w : World) (b off n c : Nat) (hn : 1 ≤ n) (c0 : w.cell? ⟨b, off, none⟩ = some (.int .u8 2)) (h : n < 3 ∨ ∃ k : Nat, k < 256 ∧ w.cell? ⟨b, off + 2, none⟩ = some (.int .u8 (k : Int)) ∧ 3 ≤ n ∧ n < 3 + k) :
    Calls Try.prog 73 #[.slice (some ⟨b, off, none⟩) n c] w (RetN w) := by
  have hn0 : ((n : Int) == 0) = false := by rw [beq_eq_false_iff_ne]; omega
  have d0 := cell_past c0
  have d00 := fun o o' => cell_past (d0 o) o'
  clear c0
  rcases h with h | ⟨k, hk, c2, h3, hlt⟩
  · go_enter Try.func73, Try.ntmps73
    go_wp2_with fail
    refine bodyPost_ret (ret_call2 rfl rfl (blk_past (blk_new w _) _)) rfl ?_
    exact ⟨_, _, _, _, _, _, rfl, ((Ext.refl w).alloc _).alloc _⟩
  · have d2 := cell_past c2
    have d22 := fun o o' => cell_past (d2 o) o'
    clear c2
    go_enter Try.func73, Try.ntmps73
    go_wp2_with fail
    refine bodyPost_ret (ret_call2 rfl rfl (blk_past (blk_new w _) _)) rfl ?_
    exact ⟨_, _, _, _, _, _, rfl, ((Ext.refl w).alloc _).alloc _⟩

set_option maxHeartbeats 2000000 in
set_option maxRecDepth 100000 in
theorem guess4_few (w : World) (b off n c : Nat) (hn : 1 ≤ n) (c0 : w.cell? ⟨b, off, none⟩ = some (.int .u8 4)) (h : n < 3 ∨ ∃ k : Nat, k < 256 ∧ w.cell? ⟨b, off + 2, none⟩ = some (.int .u8 (k : Int)) ∧ 3 ≤ n ∧ n < 3 + k) :
    Calls Try.prog 73 #[.slice (some ⟨b, off, none⟩) n c] w (RetN w) := by
  have hn0 : ((n : Int) == 0) = false := by rw [beq_eq_false_iff_ne]; omega
  have d0 := cell_past c0
  have d00 := fun o o' => cell_past (d0 o) o'
  clear c0
  rcases h with h | ⟨k, hk, c2, h3, hlt⟩
  · go_enter Try.func73, Try.ntmps73
    go_wp2_with fail
    refine bodyPost_ret (ret_call2 rfl rfl (blk_past (blk_new w _) _)) rfl ?_
    exact ⟨_, _, _, _, _, _, rfl, ((Ext.refl w).alloc _).alloc _⟩
  · have d2 := cell_past c2
    have d22 := fun o o' => cell_past (d2 o) o'
    clear c2
    go_enter Try.func73, Try.ntmps73
    go_wp2_with fail
    refine bodyPost_ret (ret_call2 rfl rfl (blk_past (blk_new w _) _)) rfl ?_
    exact ⟨_, _, _, _, _, _, rfl, ((Ext.refl w).alloc _).alloc _⟩
end Go.Proofs.Ytkebkhgjoiiapaa
