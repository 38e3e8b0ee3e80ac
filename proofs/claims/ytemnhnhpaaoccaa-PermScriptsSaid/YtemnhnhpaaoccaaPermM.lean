/- the statements' kept. -/
import Derived.Test.YtemnhnhpaaoccaaPermL
namespace Go.Proofs.Ytemnhnhpaaoccaa
open Go.RowKit

set_option maxHeartbeats 4000000 in
set_option maxRecDepth 100000 in
theorem permKept (w : World) (F A : Option Addr) (p : Int) (n cf c : Nat) (xs : List Int) (hl : xs.length = n) (hn : n ≤ 17592186044400) (hcf : n + 2 ≤ cf) (hr : Rd w F (ivals (xs ++ [77, 78]))) (hr' : Rd w A (ivals xs)) :
    Calls Try.prog 16 #[.slice F (n + 2) cf, semaV p A n c] w (RetE (.bool true) w) := by
  obtain ⟨b, off, hA, hc⟩ := hr (by simp [ivals])
  subst hA
  have h1 : w.cell? ⟨b, off + n, none⟩ = some (.int .i64 77) := hc n _ (by simp [ivals, hl])
  have h2 : w.cell? ⟨b, off + (n + 1), none⟩ = some (.int .i64 78) := hc (n + 1) _ (by simp [ivals, hl])
  have k1 := cell_past h1 (.cells #[.int .i64 p, .slice A n c] 24 (0, 0))
  have k2 := cell_past h2 (.cells #[.int .i64 p, .slice A n c] 24 (0, 0))
  obtain ⟨W, hW⟩ : ∃ W, w.alloc (.cells #[.int .i64 p, .slice A n c] 24 (0, 0)) = W := ⟨_, rfl⟩
  have hxW : Ext w W := by rw [← hW]; exact (Ext.refl w).alloc _
  have KB := Lib.hid (show W.heap[w.heap.size]? = some (.cells #[.int .i64 p, .slice A n c] 24 (0, 0)) by rw [← hW]; exact blk_new w _)
  rw [hW] at k1 k2
  have C := Lib.hid (fun W' (hx : Ext W W') => sameI_any (some ⟨b, off, none⟩) A n cf n c xs xs W' hl hl (by omega) ((rd_takeI hr).ext (hxW.trans hx)) (hr'.ext (hxW.trans hx)))
  rw [show same xs xs = true from decide_eq_true rfl] at C
  have m1 : ∀ q, (W.drewN q).cell? ⟨b, off + n, none⟩ = some (.int .i64 77) := fun _ => k1
  have m2 : ∀ q, (W.drewN q).cell? ⟨b, off + (n + 1), none⟩ = some (.int .i64 78) := fun _ => k2
  have b1 : ∀ q, (W.drewN q).cell? ⟨w.heap.size, 1, none⟩ = some (.slice A n c) := fun _ => blk_cell KB.out 1
  have b1' : W.cell? ⟨w.heap.size, 1, none⟩ = some (.slice A n c) := blk_cell KB.out 1
  have hw1 : IntKind.i64.wrap ((n : Int) + 1) = (n : Int) + 1 := by rw [IntKind.wrap_i64]; omega
  have hi1 : n < n + 2 := by omega
  have hi2 : n + 1 < n + 2 := by omega
  have hi3 : (n : Int) ≤ (cf : Int) := by omega
  have hi4 : n ≤ cf := by omega
  have hi5 : (0 : Int) ≤ (n : Int) + 1 := by omega
  have htn : ((n : Int) + 1).toNat = n + 1 := by omega
  have hi6 : (n : Int) + 1 < (n : Int) + 2 := by omega
  clear hr hr' hc h1 h2 hl
  go_enter Try.func16, Try.ntmps16
  go_upto_region 2 with fail
  try rw [hW]
  clear hW
  go_quiet ((go_at_call 12; exact quiet_q (C.out _ ((Ext.refl W).drewN _))))
  go_wp2_with fail
  go_ret
  exact ⟨rfl, hxW.trans ((Ext.refl W).drewN _)⟩
end Go.Proofs.Ytemnhnhpaaoccaa
