/- spigotref12: DocStart, Pending, end. -/
import Derived.Test.YtfjgpeffhbfihaaRefCnt
import Derived.Deep.QuietTactic
import Derived.Laws.Rows
namespace Go.Proofs.Ytfjgpeffhbfihaa
open Go.RowKit

theorem dstart_arg (w : World) (p : Option Addr) (who : Int) (op : Nat) (_hop : op < 256) (hb : ¬ (0 ≤ who ∧ who < 64) ∨ op = 0 ∨ 3 < op) :
    Calls Try.prog 28 #[.pointer p, .int .i64 who, .int .u8 (op : Int)] w fun e w' => e = .returned (.int .i64 1) ∧ w = w' := by
  by_cases hw : 0 ≤ who ∧ who < 64
  · have ho : op = 0 ∨ 3 < op := by
      rcases hb with h | h
      · exact absurd hw h
      · exact h
    clear hb
    by_cases h1 : (op : Int) < 1
    · clear ho
      go_enter Try.func28, Try.ntmps28
      go_wp2_with fail
      refine (rworker_ok _ who hw.1 hw.2).mono ?_
      rintro e w1 ⟨rfl, rfl⟩
      go_wp2_with fail
      go_ret
      exact ⟨rfl, rfl⟩
    · have h2 : (3 : Int) < (op : Int) := by omega
      clear ho
      go_enter Try.func28, Try.ntmps28
      go_wp2_with fail
      refine (rworker_ok _ who hw.1 hw.2).mono ?_
      rintro e w1 ⟨rfl, rfl⟩
      go_wp2_with fail
      go_ret
      exact ⟨rfl, rfl⟩
  · clear hb
    have HW := Lib.hid hw
    clear hw
    go_enter Try.func28, Try.ntmps28
    go_wp2_with fail
    refine (rworker_bad _ who HW.out).mono ?_
    rintro e w1 ⟨rfl, rfl⟩
    go_wp2_with fail
    go_ret
    exact ⟨rfl, rfl⟩
theorem dstart_nil (w : World) (who : Int) (op : Nat) (h1 : 0 ≤ who) (h2 : who < 64) (h3 : 1 ≤ op) (h4 : op ≤ 3) :
    Calls Try.prog 28 #[.pointer none, .int .i64 who, .int .u8 (op : Int)] w fun e w' => e = .returned (.int .i64 7) ∧ w = w' := by
  have a1 : ¬ (op : Int) < 1 := by omega
  have a2 : ¬ (3 : Int) < (op : Int) := by omega
  go_enter Try.func28, Try.ntmps28
  go_wp2_with fail
  refine (rworker_ok _ who h1 h2).mono ?_
  rintro e w1 ⟨rfl, rfl⟩
  go_wp2_with fail
  go_ret
  exact ⟨rfl, rfl⟩
set_option maxRecDepth 100000 in
theorem dstart_busy (w : World) (gd lim n st who op : Nat) (C : Nat → Nat × Bool × Nat) (h : DocAt w gd lim n st C) (hw : who < 64) (h3 : 1 ≤ op) (h4 : op ≤ 3) (hs : (C who).1 ≠ 0) :
    Calls Try.prog 28 #[.pointer (some ⟨gd, 0, none⟩), .int .i64 (who : Int), .int .u8 (op : Int)] w fun e w' => e = .returned (.int .i64 9) ∧ w = w' := by
  have a1 : ¬ (op : Int) < 1 := by omega
  have a2 : ¬ (3 : Int) < (op : Int) := by omega
  have a3 : (0 : Int) ≤ (who : Int) := by omega
  have a4 : (who : Int) < 64 := by omega
  obtain ⟨_, _, _, c3, _, _, _⟩ := h.cells hw
  have hq : (((C who).1 : Int) == 0) = false := by rw [beq_eq_false_iff_ne]; omega
  clear h hs
  go_enter Try.func28, Try.ntmps28
  go_wp2_with fail
  refine (rworker_ok _ who a3 a4).mono ?_
  rintro e w1 ⟨rfl, rfl⟩
  go_wp2_with fail
  go_ret
  exact ⟨rfl, rfl⟩
theorem gb_row {w : World} {g i j k : Nat} {a b c : Value} : GB w (((w.setCell ⟨g, i, none⟩ a).setCell ⟨g, j, none⟩ b).setCell ⟨g, k, none⟩ c) (· = g) := (((GB.refl w (· = g)).set g i _ (.inl rfl)).set g j _ (.inl rfl)).set g k _ (.inl rfl)
set_option maxRecDepth 100000 in
theorem dstart_ok (w : World) (gd lim n st who op : Nat) (C : Nat → Nat × Bool × Nat) (h : DocAt w gd lim n st C) (hw : who < 64) (h3 : 1 ≤ op) (h4 : op ≤ 3) (hs : (C who).1 = 0) :
    Calls Try.prog 28 #[.pointer (some ⟨gd, 0, none⟩), .int .i64 (who : Int), .int .u8 (op : Int)] w fun e w' => e = .returned (.int .i64 0) ∧ DocGo w gd lim n st (updC C who (op, false, 0)) w' := by
  have a1 : ¬ (op : Int) < 1 := by omega
  have a2 : ¬ (3 : Int) < (op : Int) := by omega
  have a3 : (0 : Int) ≤ (who : Int) := by omega
  have a4 : (who : Int) < 64 := by omega
  obtain ⟨_, _, _, c3, c4, c5, cf⟩ := h.cells hw
  rw [hs] at c3
  have f3 := cf (3 + who * 3); have f4 := cf (3 + who * 3 + 1); have f5 := cf (3 + who * 3 + 2)
  have HR := Lib.hid (h.setRow hw op false 0)
  clear h hs cf
  go_enter Try.func28, Try.ntmps28
  go_wp2_with fail
  refine (rworker_ok _ who a3 a4).mono ?_
  rintro e w1 ⟨rfl, rfl⟩
  go_wp2_with fail
  go_ret
  exact ⟨rfl, HR.out, gb_row⟩
theorem dpend_nil (w : World) (who : Int) : Calls Try.prog 33 #[.pointer none, .int .i64 who] w fun e w' => e = .returned (.bool false) ∧ w = w' := by
  go_enter Try.func33, Try.ntmps33
  go_wp2
  go_ret
  exact ⟨rfl, rfl⟩
theorem dpend_bad (w : World) (gc : Nat) (who : Int) (hb : ¬ (0 ≤ who ∧ who < 64)) : Calls Try.prog 33 #[.pointer (some ⟨gc, 0, none⟩), .int .i64 who] w fun e w' => e = .returned (.bool false) ∧ w = w' := by
  have HB := Lib.hid hb
  clear hb
  go_enter Try.func33, Try.ntmps33
  go_wp2_with fail
  refine (rworker_bad _ who HB.out).mono ?_
  rintro e w1 ⟨rfl, rfl⟩
  go_wp2_with fail
  go_ret
  exact ⟨rfl, rfl⟩
set_option maxRecDepth 100000 in
theorem dpend_any (w : World) (gd lim n st who : Nat) (C : Nat → Nat × Bool × Nat) (h : DocAt w gd lim n st C) (hw : who < 64) (b : Bool) (hb : (b = true ∧ (C who).1 ≠ 0) ∨ (b = false ∧ (C who).1 = 0)) :
    Calls Try.prog 33 #[.pointer (some ⟨gd, 0, none⟩), .int .i64 (who : Int)] w fun e w' => e = .returned (.bool b) ∧ w = w' := by
  have a3 : (0 : Int) ≤ (who : Int) := by omega
  have a4 : (who : Int) < 64 := by omega
  obtain ⟨_, _, _, c3, _, _, _⟩ := h.cells hw
  rcases hb with ⟨rfl, hb⟩ | ⟨rfl, hb⟩
  · have hq : (((C who).1 : Int) != 0) = true := by rw [bne_iff_ne]; omega
    clear h hb
    go_enter Try.func33, Try.ntmps33
    go_wp2_with fail
    refine (rworker_ok _ who a3 a4).mono ?_
    rintro e w1 ⟨rfl, rfl⟩
    go_wp2_with fail
    go_ret
    exact ⟨rfl, rfl⟩
  · rw [hb] at c3
    clear h hb
    go_enter Try.func33, Try.ntmps33
    go_wp2_with fail
    refine (rworker_ok _ who a3 a4).mono ?_
    rintro e w1 ⟨rfl, rfl⟩
    go_wp2_with fail
    go_ret
    exact ⟨rfl, rfl⟩
set_option maxRecDepth 100000 in
theorem dend_any (w : World) (gd lim n st who : Nat) (C : Nat → Nat × Bool × Nat) (er : Int) (nu : Int) (h : DocAt w gd lim n st C) (hw : who < 64) :
    Calls Try.prog 60 #[.pointer (some ⟨gd, 0, none⟩), .int .i64 (who : Int), .int .i64 er, .int .i64 nu] w fun e w' => e = .returned (.agg #[.bool true, .int .i64 er, .int .i64 nu]) ∧ DocGo w gd lim n st (updC C who (0, false, 0)) w' := by
  have a3 : (0 : Int) ≤ (who : Int) := by omega
  have a4 : (who : Int) < 64 := by omega
  obtain ⟨W, hW⟩ : ∃ W, w.alloc (.cells #[.bool false, .int .i64 0, .int .i64 0] 75) = W := ⟨_, rfl⟩
  have xW : Ext w W := by rw [← hW]; exact (Ext.refl w).alloc _
  have KR := Lib.hid (show W.heap[w.heap.size]? = some (.cells #[.bool false, .int .i64 0, .int .i64 0] 75 (0, 0)) by rw [← hW]; exact blk_new w _)
  have HD := Lib.hid (h.ext xW)
  obtain ⟨_, _, _, c3, c4, c5, cf⟩ := HD.out.cells hw
  have f3 := cf (3 + who * 3); have f4 := cf (3 + who * 3 + 1); have f5 := cf (3 + who * 3 + 2)
  have n1 : ¬ gd = w.heap.size := by have := h.lt; omega
  have n2 : ¬ w.heap.size = gd := by have := h.lt; omega
  have r0 := blk_cell KR.out 0; have r1 := blk_cell KR.out 1; have r2 := blk_cell KR.out 2
  have z0 := blk_frozen KR.out 0; have z1 := blk_frozen KR.out 1; have z2 := blk_frozen KR.out 2
  clear h cf
  go_enter Try.func60, Try.ntmps60
  go_upto_region 1 with fail
  (try rw [hW])
  clear hW
  go_wp2_with fail
  refine bodyPost_ret (results_cell_row (p := 8) rfl _ _ w.heap.size _ #[.bool true, .int .i64 er, .int .i64 nu] (0, 0) _ rfl (row3 (blk_grown (blk_grown (blk_grown KR.out (grown_set _ gd _ _) n2) (grown_set _ gd _ _) n2) (grown_set _ gd _ _) n2) _ _ _) Try.underlying75 (by rfl) (by kernel_rfl)) rfl ?_
  have g2 : GB W (((W.setCell ⟨gd, 3 + who * 3, none⟩ (.int .u8 0)).setCell ⟨gd, 3 + who * 3 + 1, none⟩ (.bool false)).setCell ⟨gd, 3 + who * 3 + 2, none⟩ (.int .i64 0)) (· = gd) := gb_row
  refine ⟨rfl, (HD.out.setRow hw 0 false 0).blk ?_, (((GB.back xW g2).set w.heap.size 0 _ (.inr (Nat.le_refl _))).set w.heap.size 1 _ (.inr (Nat.le_refl _))).set w.heap.size 2 _ (.inr (Nat.le_refl _))⟩
  have gs := gb_row (w := ((W.setCell ⟨gd, 3 + who * 3, none⟩ (.int .u8 0)).setCell ⟨gd, 3 + who * 3 + 1, none⟩ (.bool false)).setCell ⟨gd, 3 + who * 3 + 2, none⟩ (.int .i64 0)) (g := w.heap.size) (i := 0) (j := 1) (k := 2) (a := .bool true) (b := .int .i64 er) (c := .int .i64 nu)
  exact gs.block gd (by simpa using HD.out.lt) n1
end Go.Proofs.Ytfjgpeffhbfihaa
