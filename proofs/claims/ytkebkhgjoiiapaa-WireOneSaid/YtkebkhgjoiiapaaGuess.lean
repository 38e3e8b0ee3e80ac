/- the document's guess. -/
import Derived.Test.YtkebkhgjoiiapaaReadQ
import Derived.BigRegion
import Derived.Test.YtkebkhgjoiiapaaCall2
namespace Go.Proofs.Ytkebkhgjoiiapaa
open Go.RowKit

/-- what guess leaves where it guesses -/
def RetG (op p : Nat) (xs : List Nat) (N : Nat) (w : World) (e : Ending) (w' : World) : Prop :=
  ∃ A c, e = .returned (.tuple #[callV (op : Int) (p : Int) A xs.length c (N : Int), .bool true]) ∧ w'.ownsRow w.heap.size 5 1 (.slice A xs.length c) xs.length (vals .u8 xs) ∧ Ext w w'
def RetN (w : World) (e : Ending) (w' : World) : Prop := ∃ (o p : Int) (A : Option Addr) (n c : Nat) (N : Int), e = .returned (.tuple #[callV o p A n c N, .bool false]) ∧ Ext w w'

theorem drew_cell {w : World} {p : Addr} {v : Value} (h : w.cell? p = some v) : w.drew.cell? p = some v := h
theorem cell4 {w : World} {p : Addr} {v : Value} {g : Nat} {a b c d : Value} (h : w.cell? p = some v) (hne : p.block ≠ g) : ((((w.setCell ⟨g, 0, none⟩ a).setCell ⟨g, 1, none⟩ b).setCell ⟨g, 2, none⟩ c).setCell ⟨g, 3, none⟩ d).cell? p = some v := by
  have hg := grown_setCell (grown_setCell (grown_setCell (grown_set w g 0 a) 1 b) 2 c) 3 d
  have h1 := hg.block p.block (World.block_lt_of_cell? w p h) (fun e => hne (by injection e))
  exact (World.cell?_of_block h1).trans h
theorem cell4D {w : World} {p : Addr} {v : Value} {g : Nat} {a b c d : Value} (h : w.cell? p = some v) (hne : p.block ≠ g) : ((((w.setCell ⟨g, 0, none⟩ a).setCell ⟨g, 1, none⟩ b).setCell ⟨g, 2, none⟩ c).setCell ⟨g, 3, none⟩ d).drew.cell? p = some v := drew_cell (cell4 h hne)
theorem retG_of {op p N n c : Nat} {xs : List Nat} {A : Option Addr} {w w' : World} (hk : xs.length = n) (ho : w'.ownsRow w.heap.size 5 1 (.slice A n c) n (vals .u8 xs)) (hx : Ext w w') :
    RetG op p xs N w (.returned (.tuple #[callV (op : Int) (p : Int) A n c (N : Int), .bool true])) w' := by
  subst hk
  exact ⟨A, c, rfl, ho, hx⟩
theorem guess_nil (w : World) (A : Option Addr) (c : Nat) : Calls Try.prog 73 #[.slice A 0 c] w (RetN w) := by
  go_enter Try.func73, Try.ntmps73
  go_wp2_with fail
  refine bodyPost_ret (ret_call2 rfl rfl (heap_alloc_new w _)) rfl ?_
  exact ⟨_, _, _, _, _, _, rfl, (Ext.refl w).alloc _⟩

set_option maxRecDepth 100000 in
set_option maxHeartbeats 2000000 in
theorem guess_other (w : World) (b off n c o : Nat) (hn : 1 ≤ n) (c0 : w.cell? ⟨b, off, none⟩ = some (.int .u8 (o : Int))) (ho : o = 0 ∨ 5 ≤ o) (x5 x6 : Bool) (e5 : ((o : Int) == 5) = x5) (e6 : ((o : Int) == 6) = x6) :
    Calls Try.prog 73 #[.slice (some ⟨b, off, none⟩) n c] w fun e w' => e = .returned (.tuple #[callV (o : Int) 0 none 0 0 0, .bool (x5 || x6)]) ∧ Ext w w' := by
  have q1 : ((o : Int) == 1) = false := by rw [beq_eq_false_iff_ne]; omega
  have q2 : ((o : Int) == 2) = false := by rw [beq_eq_false_iff_ne]; omega
  have q3 : ((o : Int) == 3) = false := by rw [beq_eq_false_iff_ne]; omega
  have q4 : ((o : Int) == 4) = false := by rw [beq_eq_false_iff_ne]; omega
  have hn0 : ((n : Int) == 0) = false := by rw [beq_eq_false_iff_ne]; omega
  have hblk : b < w.heap.size := World.block_lt_of_cell? w _ c0
  have d0 := cell_past c0
  have d00 := fun o o' => cell_past (d0 o) o'
  clear c0 ho
  go_enter Try.func73, Try.ntmps73
  go_upto_region 21 with fail
  obtain ⟨W, hW⟩ : ∃ W, (w.alloc (.cells #[.int .u8 0, .int .i64 0, .slice none 0 0, .int .i64 0] 71)).alloc (.cells #[.int .u8 (o : Int), .int .i64 0, .slice none 0 0, .int .i64 0] 71) = W := ⟨_, rfl⟩
  have s0 : W.cell? ⟨b, off, none⟩ = some (.int .u8 (o : Int)) := by rw [← hW]; exact d00 _ _
  have K2 : Hid (W.heap[w.heap.size]? = some (.cells #[.int .u8 0, .int .i64 0, .slice none 0 0, .int .i64 0] 71 (0, 0))) := by rw [← hW]; exact blk_past (blk_new w _) _
  have K4 : Hid (W.heap[w.heap.size + 1]? = some (.cells #[.int .u8 (o : Int), .int .i64 0, .slice none 0 0, .int .i64 0] 71 (0, 0))) := by rw [← hW]; exact blk_newk _ _ (by simp)
  have hx : Ext w W := by rw [← hW]; exact ((Ext.refl w).alloc _).alloc _
  rw [hW]
  clear hW d0 d00
  have hb0 : b ≠ w.heap.size := by omega
  have hne : w.heap.size + 1 ≠ w.heap.size := by omega
  have k0 := blk_cell K2.out 0; have k1 := blk_cell K2.out 1; have k2 := blk_cell K2.out 2; have k3 := blk_cell K2.out 3
  have f0 := blk_frozen K2.out 0; have f1 := blk_frozen K2.out 1; have f2 := blk_frozen K2.out 2; have f3 := blk_frozen K2.out 3
  have m0 := blk_cell K4.out 0; have m1 := blk_cell K4.out 1; have m2 := blk_cell K4.out 2; have m3 := blk_cell K4.out 3
  have hq : 0 < n := by omega
  cases x5
  all_goals
    go_region
    all_goals
      go_wp2_with fail
      refine bodyPost_ret (ret_call2 rfl rfl (row4 K2.out _ _ _ _)) rfl ?_
      first
      | exact ⟨rfl, ext_row4 hx (Nat.le_refl _) _ _ _ _⟩
      | exact ⟨rfl, (ext_row4 hx (Nat.le_refl _) _ _ _ _).drew⟩
      | exact ⟨rfl, ext_row4 hx.drew (Nat.le_refl _) _ _ _ _⟩

end Go.Proofs.Ytkebkhgjoiiapaa
