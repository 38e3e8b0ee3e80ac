/- wire.Request of right calls. -/
import Derived.Test.YthkdjjfnmlemdaaWireA
import Derived.Deep.RegionHeld3
namespace Go.Proofs.Ythkdjjfnmlemdaa
open Go.RowKit

set_option maxHeartbeats 2000000 in
theorem req1_ok (w : World) (p N : Nat) (A : Option Addr) (n c : Nat) (xs : List Nat) (hl : xs.length = n) (hr : Rd w A (vals .u8 xs)) (h4 : p < 32) (hn : n ≤ 255) (hN : N ≤ 4611686018427387903) :
    Calls Try.prog 36 #[callV 1 (p : Int) A n c (N : Int)] w (RetBE (1 :: p :: xs.length :: (xs ++ wordB N 8)) 0 w) := by
  have Hl := Lib.hid hl; have Hr := Lib.hid hr; clear hl hr
  go_enter Try.func36, Try.ntmps36
  go_wp2_with fail
  refine (form_ok (N : Int) _ (by omega) (by omega)).mono ?_
  rintro e w1 ⟨rfl, rfl⟩
  go_wp2_with fail
  refine (ident_ok p A n c xs _ h4 Hl.out hn (Hr.out.alloc _)).mono ?_
  rintro e w1 ⟨A1, c1, rfl, hown1, hx1⟩
  have hl1 : (p :: xs).length = n + 1 := by rw [List.length_cons, Hl.out]
  rw [hl1] at hown1 ⊢
  clear hl1
  obtain ⟨g, rfl, hg, hg'⟩ := own_block hown1 (by omega)
  have hc0 := hown1.cellAt 0 (by omega)
  have hc0' : w1.cell? ⟨g, 0, none⟩ = some (.int .u8 (p : Int)) := by rw [hc0]; rfl
  have hK : Hid (w1.heap[w.heap.size]? = some (.cells #[.int .u8 1, .int .i64 p, .slice A n c, .int .i64 (N : Int)] 63 (0, 0))) := blk_ext (blk_new w _) hx1
  have b0 := blk_cell hK.out 0; have b2 := blk_cell hK.out 2
  have hr2 := Lib.hid (Hr.out.ext (((Ext.refl w).alloc _).trans hx1))
  have hs1 : w.heap.size + 1 ≤ w1.heap.size := by have := hx1.size; simpa using this
  clear hc0 hown1
  go_upto_region 19 with fail
  go_cut [8] (fun v wd => ∃ A6 c6, v = .slice A6 (3 + n) c6 ∧ wd.ownsRow w1.heap.size 5 1 (.slice A6 (3 + n) c6) (3 + n) (vals .u8 ([1, p, n] ++ xs)) ∧ Ext w1 wd)
  case first =>
    have hwn : IntKind.u8.wrap (n : Int) = (n : Int) := by rw [IntKind.wrap_u8]; omega
    have hoo : (w1.alloc (.cells #[.int .u8 1, .int .u8 (p : Int), .int .u8 (n : Int)] 5)).drew.ownsRow w1.heap.size 5 1 (.slice (some ⟨w1.heap.size, 0, none⟩) 3 3) 3 (vals .u8 [1, p, n]) := own_made w1 _ 5 1 3 rfl (by unfold maxLen; omega) (Nat.le_refl _)
    have hrr : Rd (w1.alloc (.cells #[.int .u8 1, .int .u8 (p : Int), .int .u8 (n : Int)] 5)).drew A (vals .u8 xs) := (hr2.out.alloc _).drew
    have b2' := cell_past b2
    have Hoo := Lib.hid hoo; have Hrr := Lib.hid hrr; clear hoo hrr
    go_region_held3 (fun w' => w'.cell? ⟨w.heap.size, 0, none⟩ = some (.int .u8 1) ∧ w'.cell? ⟨w.heap.size, 2, none⟩ = some (.slice A n c) ∧ w'.cell? ⟨g, 0, none⟩ = some (.int .u8 (p : Int))) (first | exact ⟨ext_cell hx6 b0, ext_cell hx6 b2, ext_cell hx6 hc0'⟩ | go_keep | (simp; assumption)) ((refine step_app_u8 (w1.alloc (.cells #[.int .u8 1, .int .u8 (p : Int), .int .u8 (n : Int)] 5)).drew rfl (.tmp 67) (.tmp 69) rfl w1.heap.size (B := some ⟨w1.heap.size, 0, none⟩) (n := 3) (cb := 3) (xs := [1, p, n]) (by simp [Act.eval]) Hoo.out (A := A) (m := n) (c := c) (news := xs) (by simp [Act.eval]) Hl.out Hrr.out (by omega) (by simp) ?_; intro A6 c6 w6 hown6 hgrow6 _; have hx6 : Ext w1 w6 := (((Ext.refl w1).alloc _).drew).grown hgrow6 (by simp [Value.ownBlock])))
    all_goals
      go_wp2_with fail
      go_meet
      exact ⟨_, _, rfl, by assumption, (((Ext.refl w1).alloc _).drew).grown (by assumption) (by simp [Value.ownBlock])⟩
  case rest =>
    obtain ⟨A6, c6, rfl, hown6, hy6⟩ := hcut
    have hK6 := Lib.hid (blk_ext hK.out hy6)
    have d0 := blk_cell hK6.out 0; have d3 := blk_cell hK6.out 3
    have Hown6 := Lib.hid hown6; clear hown6 b0 b2 hc0'
    have hl6 : ([1, p, n] ++ xs).length = 3 + n := by rw [List.length_append, Hl.out]; rfl
    have Hl6 := Lib.hid hl6; clear hl6
    have hs6 : w1.heap.size ≤ wc.heap.size := hy6.size
    have hx6 : Ext w wc := (((Ext.refl w).alloc _).trans hx1).trans hy6
    go_wp2_with fail
    refine (wireNum_any wc w1 w1.heap.size A6 (3 + n) c6 _ N Hl6.out Hown6.out hy6 (Nat.le_refl _) hs6 (by omega) (by omega)).mono ?_
    rintro e w7 ⟨A7, c7, rfl, hown7, hy7, hs7⟩
    have hl7 : ([1, p, n] ++ xs ++ wordB N 8).length = 3 + n + 8 := by rw [List.length_append, Hl6.out, wordB_len]
    have Hl7 := Lib.hid hl7; have Hown7 := Lib.hid hown7; clear hl7 hown7
    have hx7 : Ext w w7 := (((Ext.refl w).alloc _).trans hx1).trans hy7
    go_wp2_with fail
    go_ret2
    rw [Hl.out]
    have e : (1 :: p :: n :: (xs ++ wordB N 8)) = [1, p, n] ++ xs ++ wordB N 8 := by simp
    rw [e]
    exact retBE_of Hl7.out (own_base Hown7.out (by omega)) hx7

set_option maxHeartbeats 2000000 in
theorem req2_ok (w : World) (p : Nat) (N : Int) (A : Option Addr) (n c : Nat) (xs : List Nat) (hl : xs.length = n) (hr : Rd w A (vals .u8 xs)) (h4 : p < 32) (hn : n ≤ 255) :
    Calls Try.prog 36 #[callV 2 (p : Int) A n c N] w (RetBE (2 :: p :: xs.length :: xs) 0 w) := by
  have Hl := Lib.hid hl; have Hr := Lib.hid hr; clear hl hr
  go_enter Try.func36, Try.ntmps36
  go_wp2_with fail
  refine (ident_ok p A n c xs _ h4 Hl.out hn (Hr.out.alloc _)).mono ?_
  rintro e w1 ⟨A1, c1, rfl, hown1, hx1⟩
  have hl1 : (p :: xs).length = n + 1 := by rw [List.length_cons, Hl.out]
  rw [hl1] at hown1 ⊢
  clear hl1
  obtain ⟨g, rfl, hg, hg'⟩ := own_block hown1 (by omega)
  have hc0 := hown1.cellAt 0 (by omega)
  have hc0' : w1.cell? ⟨g, 0, none⟩ = some (.int .u8 (p : Int)) := by rw [hc0]; rfl
  have hK : Hid (w1.heap[w.heap.size]? = some (.cells #[.int .u8 2, .int .i64 p, .slice A n c, .int .i64 N] 63 (0, 0))) := blk_ext (blk_new w _) hx1
  have b0 := blk_cell hK.out 0; have b2 := blk_cell hK.out 2
  have hr2 := Lib.hid (Hr.out.ext (((Ext.refl w).alloc _).trans hx1))
  have hs1 : w.heap.size + 1 ≤ w1.heap.size := by have := hx1.size; simpa using this
  clear hc0 hown1
  go_upto_region 19 with fail
  go_cut [8] (fun v wd => ∃ A6 c6, v = .slice A6 (3 + n) c6 ∧ wd.ownsRow w1.heap.size 5 1 (.slice A6 (3 + n) c6) (3 + n) (vals .u8 ([2, p, n] ++ xs)) ∧ Ext w1 wd)
  case first =>
    have hwn : IntKind.u8.wrap (n : Int) = (n : Int) := by rw [IntKind.wrap_u8]; omega
    have hoo : (w1.alloc (.cells #[.int .u8 2, .int .u8 (p : Int), .int .u8 (n : Int)] 5)).drew.ownsRow w1.heap.size 5 1 (.slice (some ⟨w1.heap.size, 0, none⟩) 3 3) 3 (vals .u8 [2, p, n]) := own_made w1 _ 5 1 3 rfl (by unfold maxLen; omega) (Nat.le_refl _)
    have hrr : Rd (w1.alloc (.cells #[.int .u8 2, .int .u8 (p : Int), .int .u8 (n : Int)] 5)).drew A (vals .u8 xs) := (hr2.out.alloc _).drew
    have b2' := cell_past b2
    have Hoo := Lib.hid hoo; have Hrr := Lib.hid hrr; clear hoo hrr
    go_region_held3 (fun w' => w'.cell? ⟨w.heap.size, 0, none⟩ = some (.int .u8 2) ∧ w'.cell? ⟨w.heap.size, 2, none⟩ = some (.slice A n c) ∧ w'.cell? ⟨g, 0, none⟩ = some (.int .u8 (p : Int))) (first | exact ⟨ext_cell hx6 b0, ext_cell hx6 b2, ext_cell hx6 hc0'⟩ | go_keep | (simp; assumption)) ((refine step_app_u8 (w1.alloc (.cells #[.int .u8 2, .int .u8 (p : Int), .int .u8 (n : Int)] 5)).drew rfl (.tmp 67) (.tmp 69) rfl w1.heap.size (B := some ⟨w1.heap.size, 0, none⟩) (n := 3) (cb := 3) (xs := [2, p, n]) (by simp [Act.eval]) Hoo.out (A := A) (m := n) (c := c) (news := xs) (by simp [Act.eval]) Hl.out Hrr.out (by omega) (by simp) ?_; intro A6 c6 w6 hown6 hgrow6 _; have hx6 : Ext w1 w6 := (((Ext.refl w1).alloc _).drew).grown hgrow6 (by simp [Value.ownBlock])))
    all_goals
      go_wp2_with fail
      go_meet
      exact ⟨_, _, rfl, by assumption, (((Ext.refl w1).alloc _).drew).grown (by assumption) (by simp [Value.ownBlock])⟩
  case rest =>
    obtain ⟨A6, c6, rfl, hown6, hy6⟩ := hcut
    have hK6 := Lib.hid (blk_ext hK.out hy6)
    have d0 := blk_cell hK6.out 0; have d3 := blk_cell hK6.out 3
    have Hown6 := Lib.hid hown6; clear hown6 b0 b2 hc0'
    have hl6 : ([2, p, n] ++ xs).length = 3 + n := by rw [List.length_append, Hl.out]; rfl
    have Hl6 := Lib.hid hl6; clear hl6
    have hs6 : w1.heap.size ≤ wc.heap.size := hy6.size
    have hx6 : Ext w wc := (((Ext.refl w).alloc _).trans hx1).trans hy6
    go_wp2_with fail
    go_ret2
    rw [Hl.out]
    exact retBE_of Hl6.out (own_base Hown6.out (by omega)) hx6

set_option maxHeartbeats 2000000 in
theorem req4_ok (w : World) (p : Nat) (N : Int) (A : Option Addr) (n c : Nat) (xs : List Nat) (hl : xs.length = n) (hr : Rd w A (vals .u8 xs)) (h4 : p < 32) (hn : n ≤ 255) :
    Calls Try.prog 36 #[callV 4 (p : Int) A n c N] w (RetBE (4 :: p :: xs.length :: xs) 0 w) := by
  have Hl := Lib.hid hl; have Hr := Lib.hid hr; clear hl hr
  go_enter Try.func36, Try.ntmps36
  go_wp2_with fail
  refine (ident_ok p A n c xs _ h4 Hl.out hn (Hr.out.alloc _)).mono ?_
  rintro e w1 ⟨A1, c1, rfl, hown1, hx1⟩
  have hl1 : (p :: xs).length = n + 1 := by rw [List.length_cons, Hl.out]
  rw [hl1] at hown1 ⊢
  clear hl1
  obtain ⟨g, rfl, hg, hg'⟩ := own_block hown1 (by omega)
  have hc0 := hown1.cellAt 0 (by omega)
  have hc0' : w1.cell? ⟨g, 0, none⟩ = some (.int .u8 (p : Int)) := by rw [hc0]; rfl
  have hK : Hid (w1.heap[w.heap.size]? = some (.cells #[.int .u8 4, .int .i64 p, .slice A n c, .int .i64 N] 63 (0, 0))) := blk_ext (blk_new w _) hx1
  have b0 := blk_cell hK.out 0; have b2 := blk_cell hK.out 2
  have hr2 := Lib.hid (Hr.out.ext (((Ext.refl w).alloc _).trans hx1))
  have hs1 : w.heap.size + 1 ≤ w1.heap.size := by have := hx1.size; simpa using this
  clear hc0 hown1
  go_upto_region 19 with fail
  go_cut [8] (fun v wd => ∃ A6 c6, v = .slice A6 (3 + n) c6 ∧ wd.ownsRow w1.heap.size 5 1 (.slice A6 (3 + n) c6) (3 + n) (vals .u8 ([4, p, n] ++ xs)) ∧ Ext w1 wd)
  case first =>
    have hwn : IntKind.u8.wrap (n : Int) = (n : Int) := by rw [IntKind.wrap_u8]; omega
    have hoo : (w1.alloc (.cells #[.int .u8 4, .int .u8 (p : Int), .int .u8 (n : Int)] 5)).drew.ownsRow w1.heap.size 5 1 (.slice (some ⟨w1.heap.size, 0, none⟩) 3 3) 3 (vals .u8 [4, p, n]) := own_made w1 _ 5 1 3 rfl (by unfold maxLen; omega) (Nat.le_refl _)
    have hrr : Rd (w1.alloc (.cells #[.int .u8 4, .int .u8 (p : Int), .int .u8 (n : Int)] 5)).drew A (vals .u8 xs) := (hr2.out.alloc _).drew
    have b2' := cell_past b2
    have Hoo := Lib.hid hoo; have Hrr := Lib.hid hrr; clear hoo hrr
    go_region_held3 (fun w' => w'.cell? ⟨w.heap.size, 0, none⟩ = some (.int .u8 4) ∧ w'.cell? ⟨w.heap.size, 2, none⟩ = some (.slice A n c) ∧ w'.cell? ⟨g, 0, none⟩ = some (.int .u8 (p : Int))) (first | exact ⟨ext_cell hx6 b0, ext_cell hx6 b2, ext_cell hx6 hc0'⟩ | go_keep | (simp; assumption)) ((refine step_app_u8 (w1.alloc (.cells #[.int .u8 4, .int .u8 (p : Int), .int .u8 (n : Int)] 5)).drew rfl (.tmp 67) (.tmp 69) rfl w1.heap.size (B := some ⟨w1.heap.size, 0, none⟩) (n := 3) (cb := 3) (xs := [4, p, n]) (by simp [Act.eval]) Hoo.out (A := A) (m := n) (c := c) (news := xs) (by simp [Act.eval]) Hl.out Hrr.out (by omega) (by simp) ?_; intro A6 c6 w6 hown6 hgrow6 _; have hx6 : Ext w1 w6 := (((Ext.refl w1).alloc _).drew).grown hgrow6 (by simp [Value.ownBlock])))
    all_goals
      go_wp2_with fail
      go_meet
      exact ⟨_, _, rfl, by assumption, (((Ext.refl w1).alloc _).drew).grown (by assumption) (by simp [Value.ownBlock])⟩
  case rest =>
    obtain ⟨A6, c6, rfl, hown6, hy6⟩ := hcut
    have hK6 := Lib.hid (blk_ext hK.out hy6)
    have d0 := blk_cell hK6.out 0; have d3 := blk_cell hK6.out 3
    have Hown6 := Lib.hid hown6; clear hown6 b0 b2 hc0'
    have hl6 : ([4, p, n] ++ xs).length = 3 + n := by rw [List.length_append, Hl.out]; rfl
    have Hl6 := Lib.hid hl6; clear hl6
    have hs6 : w1.heap.size ≤ wc.heap.size := hy6.size
    have hx6 : Ext w wc := (((Ext.refl w).alloc _).trans hx1).trans hy6
    go_wp2_with fail
    go_ret2
    rw [Hl.out]
    exact retBE_of Hl6.out (own_base Hown6.out (by omega)) hx6
end Go.Proofs.Ythkdjjfnmlemdaa
