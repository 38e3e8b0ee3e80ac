/- the document's Same of two tokens. -/
import Derived.Test.YtkebkhgjoiiapaaTokD
namespace Go.Proofs.Ytkebkhgjoiiapaa
open Go.RowKit

set_option maxHeartbeats 1000000 in
theorem tokSame_any (w : World) (p p' s s' : Int) (A B : Option Addr) (n c m d : Nat) (xs ys : List Nat) (hl : xs.length = n) (hl' : ys.length = m) (hn : n ≤ 9223372036854775807) (hb : ∀ x ∈ xs, x < 256) (hb' : ∀ x ∈ ys, x < 256) (hr : Rd w A (vals .u8 xs)) (hr' : Rd w B (vals .u8 ys)) :
    Calls Try.prog 33 #[tokV p A n c s, tokV p' B m d s'] w (RetE (.bool (decide (p = p' ∧ xs = ys ∧ s = s'))) w) := by
  have C := Lib.hid (fun o o' => same_any A B n c m d xs ys ((w.alloc o).alloc o') hl hl' hn hb hb' ((hr.alloc o).alloc o') ((hr'.alloc o).alloc o'))
  clear hl hl' hb hb' hr hr'
  by_cases hp : p = p'
  · subst hp
    go_enter Try.func33, Try.ntmps33
    go_wp2_with fail
    refine (toE_q (C.out _ _)).mono ?_
    rintro e w1 ⟨rfl, hy1⟩
    by_cases hs : same xs ys = true
    · have k0 : w1.cell? ⟨w.heap.size, 2, none⟩ = some (.int .i64 s) := by
        rw [hy1.cell (p := ⟨w.heap.size, 2, none⟩) (by simp; omega)]
        exact cell_past (World.cell?_alloc_new _ _ _ _) _
      have k1 : w1.cell? ⟨w.heap.size + 1, 2, none⟩ = some (.int .i64 s') := by
        rw [hy1.cell (p := ⟨w.heap.size + 1, 2, none⟩) (by simp)]
        have := World.cell?_alloc_new (w.alloc (.cells #[.int .i64 p, .slice A n c, .int .i64 s] 56)) #[.int .i64 p, .slice B m d, .int .i64 s'] 56 2
        rw [World.size_alloc] at this
        exact this
      rw [hs]
      have hxy : xs = ys := of_decide_eq_true hs
      have Hxy := Lib.hid hxy; clear hxy hs C
      have hx1 : Ext w w1 := (((Ext.refl w).alloc _).alloc _).trans hy1
      go_wp2_with fail
      go_ret
      refine ⟨ret_bool ?_, hx1⟩
      by_cases hss : s = s' <;> simp [Hxy.out, hss]
    · have hs' : same xs ys = false := by simpa using hs
      rw [hs']
      have hxy : ¬ xs = ys := fun e => hs (decide_eq_true e)
      have Hxy := Lib.hid hxy; clear hxy hs hs' C
      have hx1 : Ext w w1 := (((Ext.refl w).alloc _).alloc _).trans hy1
      go_wp2_with fail
      go_ret
      refine ⟨ret_bool ?_, hx1⟩
      simp [Hxy.out]
  · have hpb : (p == p') = false := by simp [hp]
    go_enter Try.func33, Try.ntmps33
    go_wp2_with fail
    go_ret
    exact ⟨ret_bool (by simp [hp]), ((Ext.refl w).alloc _).alloc _⟩
end Go.Proofs.Ytkebkhgjoiiapaa
