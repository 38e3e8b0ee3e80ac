/- Laid together: what 'TopGivenBack' needs, part 8 of 12. -/
import Derived.Deep.RegionHeld3
import Derived.ProofKit
import Derived.OpenShut
import Derived.SizedLaws
import Derived.Deep.AppendSrc
import Derived.Shelf.Spec.SlicesInsertGrow
import Derived.Shelf.Slices.Delete
import Derived.Deep.DeepCutAuto
import Derived.Test.YtloidkmphigbdaaGreatBTopGivenBack1
import Derived.Test.YtloidkmphigbdaaGreatBTopGivenBack2
import Derived.Test.YtloidkmphigbdaaGreatBTopGivenBack3
import Derived.Test.YtloidkmphigbdaaGreatBTopGivenBack6
import Derived.Test.YtloidkmphigbdaaGreatBTopGivenBack7
namespace Go.Proofs.YtloidkmphigbdaaGreat
set_option linter.all false

section
open Go.RowKit

set_option maxHeartbeats 2000000 in
theorem req1_ok (w : World) (p N : Nat) (A : Option Addr) (n c : Nat) (xs : List Nat) (hl : xs.length = n) (hr : Rd w A (vals .u8 xs)) (h4 : p < 32) (hn : n ≤ 255) (hN : N ≤ 4611686018427387903) :
    Calls Tryz.prog 61 #[callV 1 (p : Int) A n c (N : Int)] w (RetBE (1 :: p :: xs.length :: (xs ++ wordB N 8)) 0 w) := by
  have Hl := Lib.hid hl; have Hr := Lib.hid hr; clear hl hr
  go_enter Tryz.func61, Tryz.ntmps61
  go_wp2_with fail
  refine (form_ok (N : Int) _ (by omega) (by omega)).mono ?_
  rintro e w1 ⟨rfl, rfl⟩
  go_wp2_with fail
  refine (ident_ok p A n c xs _ h4 Hl.out hn (Hr.out.alloc _)).mono ?_
  rintro e w1 ⟨A1, c1, rfl, hown1, hx1⟩
  have hl1 : (p :: xs).length = n + 1 := by rw [List.length_cons, Hl.out]
  rw [hl1] at hown1 ⊢
  clear hl1
  obtain ⟨g, rfl, hg, hg'⟩ := own_block hown1 (by omega)
  have hc0 := hown1.cellAt 0 (by omega)
  have hc0' : w1.cell? ⟨g, 0, none⟩ = some (.int .u8 (p : Int)) := by rw [hc0]; rfl
  have hK : Hid (w1.heap[w.heap.size]? = some (.cells #[.int .u8 1, .int .i64 p, .slice A n c, .int .i64 (N : Int)] 34 (0, 0))) := blk_ext (blk_new w _) hx1
  have b0 := blk_cell hK.out 0; have b2 := blk_cell hK.out 2
  have hr2 := Lib.hid (Hr.out.ext (((Ext.refl w).alloc _).trans hx1))
  have hs1 : w.heap.size + 1 ≤ w1.heap.size := by have := hx1.size; simpa using this
  clear hc0 hown1
  go_upto_region 19 with fail
  go_cut [8] (fun v wd => ∃ A6 c6, v = .slice A6 (3 + n) c6 ∧ wd.ownsRow w1.heap.size 5 1 (.slice A6 (3 + n) c6) (3 + n) (vals .u8 ([1, p, n] ++ xs)) ∧ Ext w1 wd)
  case first =>
    have hwn : IntKind.u8.wrap (n : Int) = (n : Int) := by rw [IntKind.wrap_u8]; omega
    have hoo : (w1.alloc (.cells #[.int .u8 1, .int .u8 (p : Int), .int .u8 (n : Int)] 5)).drew.ownsRow w1.heap.size 5 1 (.slice (some ⟨w1.heap.size, 0, none⟩) 3 3) 3 (vals .u8 [1, p, n]) := own_made w1 _ 5 1 3 rfl (by unfold maxLen; omega) (Nat.le_refl _)
    have hrr : Rd (w1.alloc (.cells #[.int .u8 1, .int .u8 (p : Int), .int .u8 (n : Int)] 5)).drew A (vals .u8 xs) := (hr2.out.alloc _).drew
    have b2' := cell_past b2
    have Hoo := Lib.hid hoo; have Hrr := Lib.hid hrr; clear hoo hrr
    go_region_held3 (fun w' => w'.cell? ⟨w.heap.size, 0, none⟩ = some (.int .u8 1) ∧ w'.cell? ⟨w.heap.size, 2, none⟩ = some (.slice A n c) ∧ w'.cell? ⟨g, 0, none⟩ = some (.int .u8 (p : Int))) (first | exact ⟨ext_cell hx6 b0, ext_cell hx6 b2, ext_cell hx6 hc0'⟩ | go_keep | (simp; assumption)) ((refine step_app_u8 (w1.alloc (.cells #[.int .u8 1, .int .u8 (p : Int), .int .u8 (n : Int)] 5)).drew rfl (.tmp 67) (.tmp 69) rfl w1.heap.size (B := some ⟨w1.heap.size, 0, none⟩) (n := 3) (cb := 3) (xs := [1, p, n]) (by simp [Act.eval]) Hoo.out (A := A) (m := n) (c := c) (news := xs) (by simp [Act.eval]) Hl.out Hrr.out (by omega) (by simp) ?_; intro A6 c6 w6 hown6 hgrow6 _; have hx6 : Ext w1 w6 := (((Ext.refl w1).alloc _).drew).grown hgrow6 (by simp [Value.ownBlock])))
    all_goals
      go_wp2_with fail
      go_meet
      exact ⟨_, _, rfl, by assumption, (((Ext.refl w1).alloc _).drew).grown (by assumption) (by simp [Value.ownBlock])⟩
  case rest =>
    obtain ⟨A6, c6, rfl, hown6, hy6⟩ := hcut
    have hK6 := Lib.hid (blk_ext hK.out hy6)
    have d0 := blk_cell hK6.out 0; have d3 := blk_cell hK6.out 3
    have Hown6 := Lib.hid hown6; clear hown6 b0 b2 hc0'
    have hl6 : ([1, p, n] ++ xs).length = 3 + n := by rw [List.length_append, Hl.out]; rfl
    have Hl6 := Lib.hid hl6; clear hl6
    have hs6 : w1.heap.size ≤ wc.heap.size := hy6.size
    have hx6 : Ext w wc := (((Ext.refl w).alloc _).trans hx1).trans hy6
    go_wp2_with fail
    refine (wireNum_any wc w1 w1.heap.size A6 (3 + n) c6 _ N Hl6.out Hown6.out hy6 (Nat.le_refl _) hs6 (by omega) (by omega)).mono ?_
    rintro e w7 ⟨A7, c7, rfl, hown7, hy7, hs7⟩
    have hl7 : ([1, p, n] ++ xs ++ wordB N 8).length = 3 + n + 8 := by rw [List.length_append, Hl6.out, wordB_len]
    have Hl7 := Lib.hid hl7; have Hown7 := Lib.hid hown7; clear hl7 hown7
    have hx7 : Ext w w7 := (((Ext.refl w).alloc _).trans hx1).trans hy7
    go_wp2_with fail
    go_ret2
    rw [Hl.out]
    have e : (1 :: p :: n :: (xs ++ wordB N 8)) = [1, p, n] ++ xs ++ wordB N 8 := by simp
    rw [e]
    exact retBE_of Hl7.out (own_base Hown7.out (by omega)) hx7

set_option maxHeartbeats 2000000 in
theorem req2_ok (w : World) (p : Nat) (N : Int) (A : Option Addr) (n c : Nat) (xs : List Nat) (hl : xs.length = n) (hr : Rd w A (vals .u8 xs)) (h4 : p < 32) (hn : n ≤ 255) :
    Calls Tryz.prog 61 #[callV 2 (p : Int) A n c N] w (RetBE (2 :: p :: xs.length :: xs) 0 w) := by
  have Hl := Lib.hid hl; have Hr := Lib.hid hr; clear hl hr
  go_enter Tryz.func61, Tryz.ntmps61
  go_wp2_with fail
  refine (ident_ok p A n c xs _ h4 Hl.out hn (Hr.out.alloc _)).mono ?_
  rintro e w1 ⟨A1, c1, rfl, hown1, hx1⟩
  have hl1 : (p :: xs).length = n + 1 := by rw [List.length_cons, Hl.out]
  rw [hl1] at hown1 ⊢
  clear hl1
  obtain ⟨g, rfl, hg, hg'⟩ := own_block hown1 (by omega)
  have hc0 := hown1.cellAt 0 (by omega)
  have hc0' : w1.cell? ⟨g, 0, none⟩ = some (.int .u8 (p : Int)) := by rw [hc0]; rfl
  have hK : Hid (w1.heap[w.heap.size]? = some (.cells #[.int .u8 2, .int .i64 p, .slice A n c, .int .i64 N] 34 (0, 0))) := blk_ext (blk_new w _) hx1
  have b0 := blk_cell hK.out 0; have b2 := blk_cell hK.out 2
  have hr2 := Lib.hid (Hr.out.ext (((Ext.refl w).alloc _).trans hx1))
  have hs1 : w.heap.size + 1 ≤ w1.heap.size := by have := hx1.size; simpa using this
  clear hc0 hown1
  go_upto_region 19 with fail
  go_cut [8] (fun v wd => ∃ A6 c6, v = .slice A6 (3 + n) c6 ∧ wd.ownsRow w1.heap.size 5 1 (.slice A6 (3 + n) c6) (3 + n) (vals .u8 ([2, p, n] ++ xs)) ∧ Ext w1 wd)
  case first =>
    have hwn : IntKind.u8.wrap (n : Int) = (n : Int) := by rw [IntKind.wrap_u8]; omega
    have hoo : (w1.alloc (.cells #[.int .u8 2, .int .u8 (p : Int), .int .u8 (n : Int)] 5)).drew.ownsRow w1.heap.size 5 1 (.slice (some ⟨w1.heap.size, 0, none⟩) 3 3) 3 (vals .u8 [2, p, n]) := own_made w1 _ 5 1 3 rfl (by unfold maxLen; omega) (Nat.le_refl _)
    have hrr : Rd (w1.alloc (.cells #[.int .u8 2, .int .u8 (p : Int), .int .u8 (n : Int)] 5)).drew A (vals .u8 xs) := (hr2.out.alloc _).drew
    have b2' := cell_past b2
    have Hoo := Lib.hid hoo; have Hrr := Lib.hid hrr; clear hoo hrr
    go_region_held3 (fun w' => w'.cell? ⟨w.heap.size, 0, none⟩ = some (.int .u8 2) ∧ w'.cell? ⟨w.heap.size, 2, none⟩ = some (.slice A n c) ∧ w'.cell? ⟨g, 0, none⟩ = some (.int .u8 (p : Int))) (first | exact ⟨ext_cell hx6 b0, ext_cell hx6 b2, ext_cell hx6 hc0'⟩ | go_keep | (simp; assumption)) ((refine step_app_u8 (w1.alloc (.cells #[.int .u8 2, .int .u8 (p : Int), .int .u8 (n : Int)] 5)).drew rfl (.tmp 67) (.tmp 69) rfl w1.heap.size (B := some ⟨w1.heap.size, 0, none⟩) (n := 3) (cb := 3) (xs := [2, p, n]) (by simp [Act.eval]) Hoo.out (A := A) (m := n) (c := c) (news := xs) (by simp [Act.eval]) Hl.out Hrr.out (by omega) (by simp) ?_; intro A6 c6 w6 hown6 hgrow6 _; have hx6 : Ext w1 w6 := (((Ext.refl w1).alloc _).drew).grown hgrow6 (by simp [Value.ownBlock])))
    all_goals
      go_wp2_with fail
      go_meet
      exact ⟨_, _, rfl, by assumption, (((Ext.refl w1).alloc _).drew).grown (by assumption) (by simp [Value.ownBlock])⟩
  case rest =>
    obtain ⟨A6, c6, rfl, hown6, hy6⟩ := hcut
    have hK6 := Lib.hid (blk_ext hK.out hy6)
    have d0 := blk_cell hK6.out 0; have d3 := blk_cell hK6.out 3
    have Hown6 := Lib.hid hown6; clear hown6 b0 b2 hc0'
    have hl6 : ([2, p, n] ++ xs).length = 3 + n := by rw [List.length_append, Hl.out]; rfl
    have Hl6 := Lib.hid hl6; clear hl6
    have hs6 : w1.heap.size ≤ wc.heap.size := hy6.size
    have hx6 : Ext w wc := (((Ext.refl w).alloc _).trans hx1).trans hy6
    go_wp2_with fail
    go_ret2
    rw [Hl.out]
    exact retBE_of Hl6.out (own_base Hown6.out (by omega)) hx6

set_option maxHeartbeats 2000000 in
theorem req4_ok (w : World) (p : Nat) (N : Int) (A : Option Addr) (n c : Nat) (xs : List Nat) (hl : xs.length = n) (hr : Rd w A (vals .u8 xs)) (h4 : p < 32) (hn : n ≤ 255) :
    Calls Tryz.prog 61 #[callV 4 (p : Int) A n c N] w (RetBE (4 :: p :: xs.length :: xs) 0 w) := by
  have Hl := Lib.hid hl; have Hr := Lib.hid hr; clear hl hr
  go_enter Tryz.func61, Tryz.ntmps61
  go_wp2_with fail
  refine (ident_ok p A n c xs _ h4 Hl.out hn (Hr.out.alloc _)).mono ?_
  rintro e w1 ⟨A1, c1, rfl, hown1, hx1⟩
  have hl1 : (p :: xs).length = n + 1 := by rw [List.length_cons, Hl.out]
  rw [hl1] at hown1 ⊢
  clear hl1
  obtain ⟨g, rfl, hg, hg'⟩ := own_block hown1 (by omega)
  have hc0 := hown1.cellAt 0 (by omega)
  have hc0' : w1.cell? ⟨g, 0, none⟩ = some (.int .u8 (p : Int)) := by rw [hc0]; rfl
  have hK : Hid (w1.heap[w.heap.size]? = some (.cells #[.int .u8 4, .int .i64 p, .slice A n c, .int .i64 N] 34 (0, 0))) := blk_ext (blk_new w _) hx1
  have b0 := blk_cell hK.out 0; have b2 := blk_cell hK.out 2
  have hr2 := Lib.hid (Hr.out.ext (((Ext.refl w).alloc _).trans hx1))
  have hs1 : w.heap.size + 1 ≤ w1.heap.size := by have := hx1.size; simpa using this
  clear hc0 hown1
  go_upto_region 19 with fail
  go_cut [8] (fun v wd => ∃ A6 c6, v = .slice A6 (3 + n) c6 ∧ wd.ownsRow w1.heap.size 5 1 (.slice A6 (3 + n) c6) (3 + n) (vals .u8 ([4, p, n] ++ xs)) ∧ Ext w1 wd)
  case first =>
    have hwn : IntKind.u8.wrap (n : Int) = (n : Int) := by rw [IntKind.wrap_u8]; omega
    have hoo : (w1.alloc (.cells #[.int .u8 4, .int .u8 (p : Int), .int .u8 (n : Int)] 5)).drew.ownsRow w1.heap.size 5 1 (.slice (some ⟨w1.heap.size, 0, none⟩) 3 3) 3 (vals .u8 [4, p, n]) := own_made w1 _ 5 1 3 rfl (by unfold maxLen; omega) (Nat.le_refl _)
    have hrr : Rd (w1.alloc (.cells #[.int .u8 4, .int .u8 (p : Int), .int .u8 (n : Int)] 5)).drew A (vals .u8 xs) := (hr2.out.alloc _).drew
    have b2' := cell_past b2
    have Hoo := Lib.hid hoo; have Hrr := Lib.hid hrr; clear hoo hrr
    go_region_held3 (fun w' => w'.cell? ⟨w.heap.size, 0, none⟩ = some (.int .u8 4) ∧ w'.cell? ⟨w.heap.size, 2, none⟩ = some (.slice A n c) ∧ w'.cell? ⟨g, 0, none⟩ = some (.int .u8 (p : Int))) (first | exact ⟨ext_cell hx6 b0, ext_cell hx6 b2, ext_cell hx6 hc0'⟩ | go_keep | (simp; assumption)) ((refine step_app_u8 (w1.alloc (.cells #[.int .u8 4, .int .u8 (p : Int), .int .u8 (n : Int)] 5)).drew rfl (.tmp 67) (.tmp 69) rfl w1.heap.size (B := some ⟨w1.heap.size, 0, none⟩) (n := 3) (cb := 3) (xs := [4, p, n]) (by simp [Act.eval]) Hoo.out (A := A) (m := n) (c := c) (news := xs) (by simp [Act.eval]) Hl.out Hrr.out (by omega) (by simp) ?_; intro A6 c6 w6 hown6 hgrow6 _; have hx6 : Ext w1 w6 := (((Ext.refl w1).alloc _).drew).grown hgrow6 (by simp [Value.ownBlock])))
    all_goals
      go_wp2_with fail
      go_meet
      exact ⟨_, _, rfl, by assumption, (((Ext.refl w1).alloc _).drew).grown (by assumption) (by simp [Value.ownBlock])⟩
  case rest =>
    obtain ⟨A6, c6, rfl, hown6, hy6⟩ := hcut
    have hK6 := Lib.hid (blk_ext hK.out hy6)
    have d0 := blk_cell hK6.out 0; have d3 := blk_cell hK6.out 3
    have Hown6 := Lib.hid hown6; clear hown6 b0 b2 hc0'
    have hl6 : ([4, p, n] ++ xs).length = 3 + n := by rw [List.length_append, Hl.out]; rfl
    have Hl6 := Lib.hid hl6; clear hl6
    have hs6 : w1.heap.size ≤ wc.heap.size := hy6.size
    have hx6 : Ext w wc := (((Ext.refl w).alloc _).trans hx1).trans hy6
    go_wp2_with fail
    go_ret2
    rw [Hl.out]
    exact retBE_of Hl6.out (own_base Hown6.out (by omega)) hx6
end

section
open Go.RowKit

theorem refForm_ok (N : Int) (w : World) (h : 0 ≤ N) (h' : N ≤ 4611686018427387903) : Calls Tryz.prog 48 #[.int .i64 N] w fun e w' => e = .returned (.bool true) ∧ w = w' := by
  go_enter Tryz.func48, Tryz.ntmps48
  go_wp2_with fail
  go_ret
  exact ⟨rfl, rfl⟩
theorem refForm_bad (N : Int) (w : World) (h : N < 0 ∨ 4611686018427387903 < N) : Calls Tryz.prog 48 #[.int .i64 N] w fun e w' => e = .returned (.bool false) ∧ w = w' := by
  rcases h with h | h
  · go_enter Tryz.func48, Tryz.ntmps48
    go_wp2_with fail
    go_ret
    exact ⟨rfl, rfl⟩
  · have h' : 0 ≤ N := by omega
    go_enter Tryz.func48, Tryz.ntmps48
    go_wp2_with fail
    go_ret
    exact ⟨ret_bool (by simp; omega), rfl⟩

theorem own_in {w : World} {B : Nat} {e : TypeId} {size : Nat} {v : Value} {n : Nat} {xs : List Value} (h : w.ownsRow B e size v n xs) (o : Obj) : (w.alloc o).ownsRow B e size v n xs := own_ext h ((Ext.refl w).alloc o)
theorem own_b1' (w : World) (o : Obj) (y : Nat) : ((w.alloc o).alloc (.cells #[.int .u8 (y : Int)] 5)).ownsRow w.heap.size 5 1 (.slice (some ⟨w.heap.size + 1, 0, none⟩) 1 1) 1 (vals .u8 [y]) := by
  have h := own1 (w.alloc o) y
  rw [World.size_alloc] at h
  exact own_base h (by omega)

theorem own_b1s (w : World) (o : Obj) (y : Nat) : ((w.alloc o).alloc (.cells #[.int .u8 (y : Int)] 5)).ownsRow (w.heap.size + 1) 5 1 (.slice (some ⟨w.heap.size + 1, 0, none⟩) 1 1) 1 (vals .u8 [y]) := by
  have h := own1 (w.alloc o) y
  rwa [World.size_alloc] at h

theorem refReq56 (w : World) (o : Nat) (ho : o = 5 ∨ o = 6) (p N : Int) (A : Option Addr) (n c : Nat) :
    Calls Tryz.prog 111 #[callV (o : Int) p A n c N] w (RetB [o] w) := by
  have q3 : ((o : Int) == 3) = false := by rw [beq_eq_false_iff_ne]; omega
  have hh : ((o : Int) == 5) = true ∨ (((o : Int) == 5) = false ∧ ((o : Int) == 6) = true) := by
    rcases ho with h | h
    · left; rw [beq_iff_eq]; omega
    · right; exact ⟨by rw [beq_eq_false_iff_ne]; omega, by rw [beq_iff_eq]; omega⟩
  have Ho := Lib.hid ho; clear ho
  rcases hh with h5 | ⟨h5, h6⟩
  · go_enter Tryz.func111, Tryz.ntmps111
    go_wp2_with fail
    go_ret
    exact retB_of rfl (own_b1' w _ o) (((Ext.refl w).alloc _).alloc _)
  · go_enter Tryz.func111, Tryz.ntmps111
    go_wp2_with fail
    go_ret
    exact retB_of rfl (own_b1' w _ o) (((Ext.refl w).alloc _).alloc _)
set_option maxHeartbeats 1000000 in
theorem refReq3 (w : World) (p N : Nat) (A : Option Addr) (n c : Nat) (xs : List Nat) (hl : xs.length = n) (hb : ∀ x ∈ xs, x < 256) (hr : Rd w A (vals .u8 xs)) (h1 : 1 ≤ N) (h2 : N ≤ 4611686018427387903) (h4 : p < 32) (hn : n ≤ 255) :
    Calls Tryz.prog 111 #[callV 3 (p : Int) A n c (N : Int)] w (RetB (3 :: tokB p xs N) w) := by
  have C := Lib.hid (fun w1 hr' => refTok_any w1 p N A n c xs hl hb hr' h1 h2 h4 hn)
  have hL : (tokB p xs N).length = n + 16 := by rw [tokB_len, hl]
  have HL := Lib.hid hL; have Hr := Lib.hid hr; clear hl hr hb hL
  have H0 := Lib.hid (own_b1' w (.cells #[.int .u8 3, .int .i64 p, .slice A n c, .int .i64 N] 34) 3)
  go_enter Tryz.func111, Tryz.ntmps111
  go_wp2_with fail
  refine (C.out _ ((Hr.out.alloc _).alloc _)).mono ?_
  rintro e w1 ⟨A1, c1, rfl, hown, hy⟩
  rw [HL.out] at hown ⊢
  have hx : Ext w w1 := (((Ext.refl w).alloc _).alloc _).trans hy
  have R1 := Lib.hid (Rd.of_own hown)
  have h0 := own_ext H0.out hy
  have hs : w.heap.size ≤ w1.heap.size := hx.size
  clear hown
  go_wp2_with (first | (at_builtin; refine app_u8 _ rfl (.tmp 11) (.tmp 19) rfl w.heap.size rfl h0 rfl HL.out R1.out (by omega) (by omega) ?_; intro A2 c2 w2 hown2 hgrow2 _) | fail)
  go_ret
  refine retB_of ?_ hown2 (hx.grown hgrow2 (own_ge h0))
  show (3 :: tokB p xs N).length = _
  rw [List.length_cons, HL.out]; omega
set_option maxHeartbeats 1000000 in
theorem refReq24 (w : World) (o p : Nat) (ho : o = 2 ∨ o = 4) (N : Int) (A : Option Addr) (n c : Nat) (xs : List Nat) (hl : xs.length = n) (hr : Rd w A (vals .u8 xs)) (h4 : p < 32) (hn : n ≤ 255) :
    Calls Tryz.prog 111 #[callV (o : Int) (p : Int) A n c N] w (RetB (o :: p :: xs.length :: xs) w) := by
  have q1 : ((o : Int) == 1) = false := by rw [beq_eq_false_iff_ne]; omega
  have q3 : ((o : Int) == 3) = false := by rw [beq_eq_false_iff_ne]; omega
  have q5 : ((o : Int) == 5) = false := by rw [beq_eq_false_iff_ne]; omega
  have q6 : ((o : Int) == 6) = false := by rw [beq_eq_false_iff_ne]; omega
  have Ho := Lib.hid ho; clear ho
  have H0 := Lib.hid (own_b1s w (.cells #[.int .u8 (o : Int), .int .i64 p, .slice A n c, .int .i64 N] 34) o)
  have Hl := Lib.hid hl; have Hr := Lib.hid hr; clear hl hr
  have hwn : IntKind.u8.wrap (n : Int) = (n : Int) := by rw [IntKind.wrap_u8]; omega
  have hwp : IntKind.u8.wrap (p : Int) = (p : Int) := by rw [IntKind.wrap_u8]; omega
  go_enter Tryz.func111, Tryz.ntmps111
  go_wp2_with (first
    | (at_builtin; refine app_u8 _ rfl (.tmp 25) (.tmp 33) rfl (w.heap.size + 1) rfl (own_in H0.out _) rfl (m := 2) (news := [p, n]) rfl (rd_newk _ _ _ (by simp)) (by omega) (by simp <;> omega) ?_; intro A1 c1 w1 hown1 hgrow1 _; have hx1 : Ext w w1 := ((((Ext.refl w).alloc _).alloc _).alloc _).grown hgrow1 (fun k hk => by have := own_ge H0.out k hk; omega); have k1 := Lib.hid (hgrow1.block w.heap.size (by simp <;> omega) (fun e => by have := own_ge H0.out _ e.symm; omega)); have kk : Hid (w1.heap[w.heap.size]? = some (.cells #[.int .u8 (o : Int), .int .i64 p, .slice A n c, .int .i64 N] 34 (0, 0))) := k1.out.trans (blk_past (blk_past (blk_new w _) _) _); have g0 := blk_cell kk.out 0; have g2 := blk_cell kk.out 2)
    | (at_builtin; refine app_u8 _ rfl (.tmp 35) (.tmp 37) rfl (w.heap.size + 1) rfl hown1 rfl Hl.out (Hr.out.ext hx1) (by omega) (blk_lt kk.out) ?_; intro A2 c2 w2 hown2 hgrow2 _; have hx2 : Ext w w2 := hx1.grown hgrow2 (fun k hk => by have := own_ge hown1 k hk; omega); have k2 := Lib.hid (hgrow2.block w.heap.size (blk_lt kk.out) (fun e => by have := own_ge hown1 _ e.symm; omega)); have kk2 : Hid (w2.heap[w.heap.size]? = some (.cells #[.int .u8 (o : Int), .int .i64 p, .slice A n c, .int .i64 N] 34 (0, 0))) := k2.out.trans kk.out; have j0 := blk_cell kk2.out 0)
    | fail)
  go_ret
  have hx : Ext w w2 := hx2
  refine retB_of (n := 1 + 2 + n) ?_ ?_ hx2
  · simp only [List.length_cons, Hl.out]; omega
  · rw [Hl.out]; exact own_base hown2 (by omega)
set_option maxHeartbeats 1000000 in
theorem refReq1 (w : World) (p N : Nat) (A : Option Addr) (n c : Nat) (xs : List Nat) (hl : xs.length = n) (hr : Rd w A (vals .u8 xs)) (h4 : p < 32) (hn : n ≤ 255) (hN : N ≤ 4611686018427387903) :
    Calls Tryz.prog 111 #[callV 1 (p : Int) A n c (N : Int)] w (RetB (1 :: p :: xs.length :: (xs ++ wordB N 8)) w) := by
  have H0 := Lib.hid (own_b1s w (.cells #[.int .u8 1, .int .i64 p, .slice A n c, .int .i64 N] 34) 1)
  have Hl := Lib.hid hl; have Hr := Lib.hid hr; clear hl hr
  have hwn : IntKind.u8.wrap (n : Int) = (n : Int) := by rw [IntKind.wrap_u8]; omega
  have hwp : IntKind.u8.wrap (p : Int) = (p : Int) := by rw [IntKind.wrap_u8]; omega
  go_enter Tryz.func111, Tryz.ntmps111
  go_wp2_with (first
    | (at_builtin; refine app_u8 _ rfl (.tmp 25) (.tmp 33) rfl (w.heap.size + 1) rfl (own_in H0.out _) rfl (m := 2) (news := [p, n]) rfl (rd_newk _ _ _ (by simp)) (by omega) (by simp <;> omega) ?_; intro A1 c1 w1 hown1 hgrow1 _; have hx1 : Ext w w1 := ((((Ext.refl w).alloc _).alloc _).alloc _).grown hgrow1 (fun k hk => by have := own_ge H0.out k hk; omega); have k1 := Lib.hid (hgrow1.block w.heap.size (by simp <;> omega) (fun e => by have := own_ge H0.out _ e.symm; omega)); have kk : Hid (w1.heap[w.heap.size]? = some (.cells #[.int .u8 1, .int .i64 p, .slice A n c, .int .i64 N] 34 (0, 0))) := k1.out.trans (blk_past (blk_past (blk_new w _) _) _); have g0 := blk_cell kk.out 0; have g2 := blk_cell kk.out 2)
    | (at_builtin; refine app_u8 _ rfl (.tmp 35) (.tmp 37) rfl (w.heap.size + 1) rfl hown1 rfl Hl.out (Hr.out.ext hx1) (by omega) (blk_lt kk.out) ?_; intro A2 c2 w2 hown2 hgrow2 _; have hx2 : Ext w w2 := hx1.grown hgrow2 (fun k hk => by have := own_ge hown1 k hk; omega); have k2 := Lib.hid (hgrow2.block w.heap.size (blk_lt kk.out) (fun e => by have := own_ge hown1 _ e.symm; omega)); have kk2 : Hid (w2.heap[w.heap.size]? = some (.cells #[.int .u8 1, .int .i64 p, .slice A n c, .int .i64 N] 34 (0, 0))) := k2.out.trans kk.out; have j0 := blk_cell kk2.out 0; have j3 := blk_cell kk2.out 3)
    | fail)
  have hs2 : w.heap.size < w2.heap.size := blk_lt kk2.out
  have Hown2 := Lib.hid hown2; have Hx2 := Lib.hid hx2
  clear hown1 hgrow1 hx1 k1 g0 g2 hgrow2 k2 hown2 hx2
  refine (docWord_any w2 N 8 (by omega) (by omega)).mono ?_
  rintro e w3 ⟨A3, c3, rfl, hown3, hy3⟩
  rw [wordB_len] at hown3 ⊢
  have R3 := Lib.hid (Rd.of_own hown3)
  have h2 := own_ext Hown2.out hy3
  have hs3 : w2.heap.size ≤ w3.heap.size := hy3.size
  clear hown3
  go_wp2_with (first | (at_builtin; refine app_u8 _ rfl (.tmp 42) (.tmp 46) rfl (w.heap.size + 1) rfl h2 rfl (wordB_len N 8) R3.out (by omega) (by omega) ?_; intro A4 c4 w4 hown4 hgrow4 _) | fail)
  go_ret
  have e : 1 :: p :: n :: (xs ++ wordB N 8) = [1] ++ [p, n] ++ xs ++ wordB N 8 := by simp
  rw [Hl.out, e]
  refine retB_of ?_ (own_base hown4 (by omega)) ((Hx2.out.trans hy3).grown hgrow4 (fun k hk => by have := own_ge h2 k hk; omega))
  simp only [List.length_append, List.length_cons, List.length_nil, Hl.out, wordB_len]
end

section
open Go.RowKit

theorem docReq_op (w : World) (op p N : Int) (A : Option Addr) (n c : Nat) (h : op < 1 ∨ 6 < op) :
    Calls Tryz.prog 63 #[callV op p A n c N] w (RetBE [] 1 w) := by
  rcases h with h | h
  · go_enter Tryz.func63, Tryz.ntmps63
    go_wp2_with fail
    go_ret2
    exact retBE_none ⟨rfl, (Ext.refl w).alloc _⟩
  · have h' : ¬ op < 1 := by omega
    go_enter Tryz.func63, Tryz.ntmps63
    go_wp2_with fail
    go_ret2
    exact retBE_none ⟨rfl, (Ext.refl w).alloc _⟩
theorem docReq_p (w : World) (op p N : Int) (A : Option Addr) (n c : Nat) (h1 : 1 ≤ op) (h5 : op < 5) (h : p < 0 ∨ 32 ≤ p) :
    Calls Tryz.prog 63 #[callV op p A n c N] w (RetBE [] 1 w) := by
  have h6 : op ≤ 6 := by omega
  rcases h with h | h
  · go_enter Tryz.func63, Tryz.ntmps63
    go_wp2_with fail
    go_ret2
    exact retBE_none ⟨rfl, (Ext.refl w).alloc _⟩
  · have h' : ¬ p < 0 := by omega
    go_enter Tryz.func63, Tryz.ntmps63
    go_wp2_with fail
    go_ret2
    exact retBE_none ⟨rfl, (Ext.refl w).alloc _⟩
theorem docReq_N1 (w : World) (p N : Int) (A : Option Addr) (n c : Nat) (hp : 0 ≤ p) (hp' : p < 32) (h : N < 0 ∨ 4611686018427387903 < N) :
    Calls Tryz.prog 63 #[callV 1 p A n c N] w (RetBE [] 1 w) := by
  go_enter Tryz.func63, Tryz.ntmps63
  go_wp2_with fail
  refine (refForm_bad N _ h).mono ?_
  rintro e w1 ⟨rfl, rfl⟩
  go_wp2_with fail
  go_ret2
  exact retBE_none ⟨rfl, (Ext.refl w).alloc _⟩
theorem docReq_N3 (w : World) (p N : Int) (A : Option Addr) (n c : Nat) (hp : 0 ≤ p) (hp' : p < 32) (h : N < 1 ∨ 4611686018427387903 < N) :
    Calls Tryz.prog 63 #[callV 3 p A n c N] w (RetBE [] 1 w) := by
  rcases h with h | h
  · go_enter Tryz.func63, Tryz.ntmps63
    go_wp2_with fail
    go_ret2
    exact retBE_none ⟨rfl, (Ext.refl w).alloc _⟩
  · have h' : ¬ N < 1 := by omega
    go_enter Tryz.func63, Tryz.ntmps63
    go_wp2_with fail
    go_ret2
    exact retBE_none ⟨rfl, (Ext.refl w).alloc _⟩
theorem docReq_long1 (w : World) (p N : Int) (A : Option Addr) (n c : Nat) (hp : 0 ≤ p) (hp' : p < 32) (h1 : 0 ≤ N) (h2 : N ≤ 4611686018427387903) (hn : 255 < n) :
    Calls Tryz.prog 63 #[callV 1 p A n c N] w (RetBE [] 2 w) := by
  go_enter Tryz.func63, Tryz.ntmps63
  go_wp2_with fail
  refine (refForm_ok N _ h1 h2).mono ?_
  rintro e w1 ⟨rfl, rfl⟩
  go_wp2_with fail
  go_ret2
  exact retBE_none ⟨rfl, (Ext.refl w).alloc _⟩
theorem docReq_long3 (w : World) (p N : Int) (A : Option Addr) (n c : Nat) (hp : 0 ≤ p) (hp' : p < 32) (h1 : 1 ≤ N) (h2 : N ≤ 4611686018427387903) (hn : 255 < n) :
    Calls Tryz.prog 63 #[callV 3 p A n c N] w (RetBE [] 2 w) := by
  go_enter Tryz.func63, Tryz.ntmps63
  go_wp2_with fail
  go_ret2
  exact retBE_none ⟨rfl, (Ext.refl w).alloc _⟩
theorem docReq_long24 (w : World) (op p N : Int) (A : Option Addr) (n c : Nat) (h : op = 2 ∨ op = 4) (hp : 0 ≤ p) (hp' : p < 32) (hn : 255 < n) :
    Calls Tryz.prog 63 #[callV op p A n c N] w (RetBE [] 2 w) := by
  have q1 : (op == 1) = false := by rw [beq_eq_false_iff_ne]; omega
  have q3 : (op == 3) = false := by rw [beq_eq_false_iff_ne]; omega
  have h1 : 1 ≤ op := by omega
  have h2 : op < 5 := by omega
  have h3 : op ≤ 6 := by omega
  clear h
  go_enter Tryz.func63, Tryz.ntmps63
  go_wp2_with fail
  go_ret2
  exact retBE_none ⟨rfl, (Ext.refl w).alloc _⟩
theorem retBE_in {L : List Nat} {q : Int} {w w1 w2 : World} {A : Option Addr} {c k : Nat} (hx : Ext w w1) (hk : L.length = k) (ho : w2.ownsRow w1.heap.size 5 1 (.slice A k c) k (vals .u8 L)) (hy : Ext w1 w2) :
    RetBE L q w (.returned (.tuple #[.slice A k c, .int .i64 q])) w2 := retBE_of hk (own_base ho hx.size) (hx.trans hy)
theorem docReq_ok1 (w : World) (p N : Int) (A : Option Addr) (n c : Nat) (xs L : List Nat) (k : Nat) (hk : L.length = k) (hr : Rd w A (vals .u8 xs)) (hp : 0 ≤ p) (hp' : p < 32) (h1 : 0 ≤ N) (h2 : N ≤ 4611686018427387903) (hn : n ≤ 255)
    (hC : ∀ w, Rd w A (vals .u8 xs) → Calls Tryz.prog 111 #[callV 1 p A n c N] w (RetB L w)) :
    Calls Tryz.prog 63 #[callV 1 p A n c N] w (RetBE L 0 w) := by
  have HC := Lib.hid hC; have Hr := Lib.hid hr; have Hk := Lib.hid hk; clear hC hr hk
  go_enter Tryz.func63, Tryz.ntmps63
  go_wp2_with fail
  refine (refForm_ok N _ h1 h2).mono ?_
  rintro e w1 ⟨rfl, rfl⟩
  go_wp2_with fail
  refine (HC.out _ (Hr.out.alloc _)).mono ?_
  rintro e w1 ⟨A1, c1, rfl, hown, hy⟩
  rw [Hk.out] at hown ⊢
  have Hown := Lib.hid hown; clear hown
  go_wp2_with fail
  go_ret2
  exact retBE_in ((Ext.refl w).alloc _) Hk.out Hown.out hy
theorem docReq_ok3 (w : World) (p N : Int) (A : Option Addr) (n c : Nat) (xs L : List Nat) (k : Nat) (hk : L.length = k) (hr : Rd w A (vals .u8 xs)) (hp : 0 ≤ p) (hp' : p < 32) (h1 : 1 ≤ N) (h2 : N ≤ 4611686018427387903) (hn : n ≤ 255)
    (hC : ∀ w, Rd w A (vals .u8 xs) → Calls Tryz.prog 111 #[callV 3 p A n c N] w (RetB L w)) :
    Calls Tryz.prog 63 #[callV 3 p A n c N] w (RetBE L 0 w) := by
  have HC := Lib.hid hC; have Hr := Lib.hid hr; have Hk := Lib.hid hk; clear hC hr hk
  go_enter Tryz.func63, Tryz.ntmps63
  go_wp2_with fail
  refine (HC.out _ (Hr.out.alloc _)).mono ?_
  rintro e w1 ⟨A1, c1, rfl, hown, hy⟩
  rw [Hk.out] at hown ⊢
  have Hown := Lib.hid hown; clear hown
  go_wp2_with fail
  go_ret2
  exact retBE_in ((Ext.refl w).alloc _) Hk.out Hown.out hy
theorem docReq_ok24 (w : World) (op p N : Int) (A : Option Addr) (n c : Nat) (xs L : List Nat) (k : Nat) (hk : L.length = k) (hr : Rd w A (vals .u8 xs)) (h : op = 2 ∨ op = 4) (hp : 0 ≤ p) (hp' : p < 32) (hn : n ≤ 255)
    (hC : ∀ w, Rd w A (vals .u8 xs) → Calls Tryz.prog 111 #[callV op p A n c N] w (RetB L w)) :
    Calls Tryz.prog 63 #[callV op p A n c N] w (RetBE L 0 w) := by
  have HC := Lib.hid hC; have Hr := Lib.hid hr; have Hk := Lib.hid hk; clear hC hr hk
  have q1 : (op == 1) = false := by rw [beq_eq_false_iff_ne]; omega
  have q3 : (op == 3) = false := by rw [beq_eq_false_iff_ne]; omega
  have h1 : 1 ≤ op := by omega
  have h2 : op < 5 := by omega
  have h3 : op ≤ 6 := by omega
  clear h
  go_enter Tryz.func63, Tryz.ntmps63
  go_wp2_with fail
  refine (HC.out _ (Hr.out.alloc _)).mono ?_
  rintro e w1 ⟨A1, c1, rfl, hown, hy⟩
  rw [Hk.out] at hown ⊢
  have Hown := Lib.hid hown; clear hown
  go_wp2_with fail
  go_ret2
  exact retBE_in ((Ext.refl w).alloc _) Hk.out Hown.out hy
theorem docReq_ok56 (w : World) (op p N : Int) (A : Option Addr) (n c : Nat) (L : List Nat) (k : Nat) (hk : L.length = k) (h : op = 5 ∨ op = 6)
    (hC : ∀ w, Calls Tryz.prog 111 #[callV op p A n c N] w (RetB L w)) :
    Calls Tryz.prog 63 #[callV op p A n c N] w (RetBE L 0 w) := by
  have HC := Lib.hid hC; have Hk := Lib.hid hk; clear hC hk
  have q1 : (op == 1) = false := by rw [beq_eq_false_iff_ne]; omega
  have q3 : (op == 3) = false := by rw [beq_eq_false_iff_ne]; omega
  have h1 : 1 ≤ op := by omega
  have h2 : 5 ≤ op := by omega
  have h3 : op ≤ 6 := by omega
  clear h
  go_enter Tryz.func63, Tryz.ntmps63
  go_wp2_with fail
  refine (HC.out _).mono ?_
  rintro e w1 ⟨A1, c1, rfl, hown, hy⟩
  rw [Hk.out] at hown ⊢
  have Hown := Lib.hid hown; clear hown
  go_wp2_with fail
  go_ret2
  exact retBE_in ((Ext.refl w).alloc _) Hk.out Hown.out hy

/-- Request and DocRequest answer alike -/
theorem req_cases (op : Nat) (_hop : op < 256) (p N : Int) (n : Nat) (xs : List Nat) (hl : xs.length = n) (hb : ∀ x ∈ xs, x < 256) :
    ∃ (q : Int) (L : List Nat), ReqIs op p xs N q L ∧ (∀ A c w, Rd w A (vals .u8 xs) → Calls Tryz.prog 61 #[callV (op : Int) p A n c N] w (RetBE L q w)) ∧
      (∀ A c w, Rd w A (vals .u8 xs) → Calls Tryz.prog 63 #[callV (op : Int) p A n c N] w (RetBE L q w)) := by
  by_cases h0 : op < 1 ∨ 6 < op
  · exact ⟨1, [], (.inl ⟨rfl, rfl, not_right (by omega)⟩), fun A c w _ => req_bad w _ p N A n c (by omega) (by omega), fun A c w _ => docReq_op w _ p N A n c (by omega)⟩
  by_cases h56 : op = 5 ∨ op = 6
  · have hR : RightC op 0 xs 0 := ⟨by omega, by omega, fun h => by omega, fun h => by omega, fun h => by omega⟩
    have hB : reqB op 0 xs 0 = [op] := by unfold reqB; rw [if_neg (by omega), if_pos h56]
    refine ⟨0, [op], .inr ⟨rfl, 0, 0, fun h => by omega, fun h => by omega, hR, hB.symm⟩, fun A c w _ => ?_, fun A c w _ => docReq_ok56 w _ p N A n c [op] 1 rfl (by omega) (fun w => refReq56 w op h56 p N A n c)⟩
    rcases h56 with rfl | rfl
    · exact req5_ok w p N A n c
    · exact req6_ok w p N A n c
  by_cases h3 : op = 3
  · subst h3
    by_cases h1 : N < 1 ∨ 4611686018427387903 < N ∨ p < 0 ∨ 32 ≤ p
    · refine ⟨1, [], (.inl ⟨rfl, rfl, not_right (by omega)⟩), fun A c w hr => req3_err w p N A n c xs 1 rfl hr (fun w' _ => (tokEncode_arg w' p N A n c h1).mono fun _ _ h => retBE_none h), fun A c w hr => ?_⟩
      by_cases hp : p < 0 ∨ 32 ≤ p
      · exact docReq_p w 3 p N A n c (by omega) (by omega) hp
      · exact docReq_N3 w p N A n c (by omega) (by omega) (by omega)
    · by_cases h2 : 255 < n
      · exact ⟨2, [], (.inl ⟨rfl, rfl, not_right (by omega)⟩), fun A c w hr => req3_err w p N A n c xs 2 rfl hr (fun w' _ => (tokEncode_long w' p N A n c (by omega) (by omega) (by omega) (by omega) h2).mono fun _ _ h => retBE_none h), fun A c w hr => docReq_long3 w p N A n c (by omega) (by omega) (by omega) (by omega) h2⟩
      · have hlen : (tokB p.toNat xs N.toNat).length = n + 16 := by rw [tokB_len, hl]
        have hR : RightC 3 p.toNat xs N.toNat := ⟨by omega, by omega, fun _ => ⟨by omega, by omega⟩, fun h => by omega, fun _ => ⟨by omega, by omega⟩⟩
        refine ⟨0, 3 :: tokB p.toNat xs N.toNat, .inr ⟨rfl, p.toNat, N.toNat, fun _ => by omega, fun _ => by omega, hR, rfl⟩, fun A c w hr => req3_ok w p N A n c xs _ _ hlen (by omega) hr (fun w' hr' => ?_), fun A c w hr => docReq_ok3 w p N A n c xs _ _ (by rw [List.length_cons, hlen]) hr (by omega) (by omega) (by omega) (by omega) (by omega) (fun w' hr' => ?_)⟩
        · have := tokEncode_ok w' p.toNat N.toNat A n c xs hl hb hr' (by omega) (by omega) (by omega) (by omega)
          rwa [show ((p.toNat : Nat) : Int) = p by omega, show ((N.toNat : Nat) : Int) = N by omega] at this
        · have := refReq3 w' p.toNat N.toNat A n c xs hl hb hr' (by omega) (by omega) (by omega) (by omega)
          rwa [show ((p.toNat : Nat) : Int) = p by omega, show ((N.toNat : Nat) : Int) = N by omega] at this
  by_cases h1 : op = 1
  · subst h1
    by_cases hN : N < 0 ∨ 4611686018427387903 < N
    · refine ⟨1, [], (.inl ⟨rfl, rfl, not_right (by omega)⟩), fun A c w _ => req1_num w p N A n c hN, fun A c w _ => ?_⟩
      by_cases hp : p < 0 ∨ 32 ≤ p
      · exact docReq_p w 1 p N A n c (by omega) (by omega) hp
      · exact docReq_N1 w p N A n c (by omega) (by omega) hN
    · by_cases hp : p < 0 ∨ 32 ≤ p
      · exact ⟨1, [], (.inl ⟨rfl, rfl, not_right (by omega)⟩), fun A c w _ => req1_err w p N A n c 1 rfl (by omega) (by omega) (fun w => ident_arg p A n c w hp), fun A c w _ => docReq_p w 1 p N A n c (by omega) (by omega) hp⟩
      · by_cases h2 : 255 < n
        · exact ⟨2, [], (.inl ⟨rfl, rfl, not_right (by omega)⟩), fun A c w _ => req1_err w p N A n c 2 rfl (by omega) (by omega) (fun w => ident_long p A n c w (by omega) (by omega) h2), fun A c w _ => docReq_long1 w p N A n c (by omega) (by omega) (by omega) (by omega) h2⟩
        · obtain ⟨P, rfl⟩ : ∃ P : Nat, p = (P : Int) := ⟨p.toNat, by omega⟩
          obtain ⟨M, rfl⟩ : ∃ M : Nat, N = (M : Int) := ⟨N.toNat, by omega⟩
          have hR : RightC 1 P xs M := ⟨by omega, by omega, fun _ => ⟨by omega, by omega⟩, fun _ => by omega, fun h => by omega⟩
          refine ⟨0, reqB 1 P xs M, .inr ⟨rfl, P, M, fun _ => rfl, fun _ => rfl, hR, rfl⟩, fun A c w hr => req1_ok w P M A n c xs hl hr (by omega) (by omega) (by omega), fun A c w hr => docReq_ok1 w _ _ A n c xs _ _ rfl hr (by omega) (by omega) (by omega) (by omega) (by omega) (fun w' hr' => refReq1 w' P M A n c xs hl hr' (by omega) (by omega) (by omega))⟩
  · have h24 : op = 2 ∨ op = 4 := by omega
    by_cases hp : p < 0 ∨ 32 ≤ p
    · refine ⟨1, [], (.inl ⟨rfl, rfl, not_right (by omega)⟩), fun A c w _ => ?_, fun A c w _ => docReq_p w _ p N A n c (by omega) (by omega) hp⟩
      rcases h24 with rfl | rfl
      · exact req2_err w p N A n c 1 rfl (fun w => ident_arg p A n c w hp)
      · exact req4_err w p N A n c 1 rfl (fun w => ident_arg p A n c w hp)
    · by_cases h2 : 255 < n
      · refine ⟨2, [], (.inl ⟨rfl, rfl, not_right (by omega)⟩), fun A c w _ => ?_, fun A c w _ => docReq_long24 w _ p N A n c (by omega) (by omega) (by omega) h2⟩
        rcases h24 with rfl | rfl
        · exact req2_err w p N A n c 2 rfl (fun w => ident_long p A n c w (by omega) (by omega) h2)
        · exact req4_err w p N A n c 2 rfl (fun w => ident_long p A n c w (by omega) (by omega) h2)
      · obtain ⟨P, rfl⟩ : ∃ P : Nat, p = (P : Int) := ⟨p.toNat, by omega⟩
        have hR : RightC op P xs 0 := ⟨by omega, by omega, fun _ => ⟨by omega, by omega⟩, fun h => by omega, fun h => by omega⟩
        have hB : reqB op P xs 0 = op :: P :: xs.length :: xs := by unfold reqB; rw [if_neg (by omega), if_neg (by omega), if_neg (by omega), List.append_nil]
        refine ⟨0, reqB op P xs 0, .inr ⟨rfl, P, 0, fun _ => rfl, fun h => by omega, hR, rfl⟩, fun A c w hr => ?_, fun A c w hr => ?_⟩
        · rw [hB]
          rcases h24 with rfl | rfl
          · exact req2_ok w P N A n c xs hl hr (by omega) (by omega)
          · exact req4_ok w P N A n c xs hl hr (by omega) (by omega)
        · rw [hB]
          exact docReq_ok24 w _ _ N A n c xs _ _ rfl hr (by omega) (by omega) (by omega) (by omega) (fun w' hr' => refReq24 w' op P h24 N A n c xs hl hr' (by omega) (by omega))
end

section
open Go.RowKit

/-- the return of ReadRequest, DocReadRequest, guess: a call's cell and a number -/
theorem ret_call2 {fn : Func} (h : fn.results = #[.cell 2 34, .tmp 3]) {tmps : Array Value} {w : World} {g : Nat} {a b c d : Value} {t : TypeId} {fr : Nat × Nat} (hp : tmps.getD 2 undef = .pointer (some ⟨g, 0, none⟩)) (hg : w.heap[g]? = some (.cells #[a, b, c, d] t fr)) :
    (results fn tmps).run Tryz.prog w = .ok (.tuple #[.agg #[a, b, c, d], tmps.getD 3 undef]) w :=
  results_row_tmp h tmps w g t #[a, b, c, d] fr _ hp hg Tryz.underlying34 (by rfl) (by kernel_rfl)
/-- a call that was read -/
def RetCall (op p : Nat) (xs : List Nat) (N : Nat) (w : World) (e : Ending) (w' : World) : Prop :=
  ∃ A c, e = .returned (.tuple #[callV (op : Int) (p : Int) A xs.length c (N : Int), .int .i64 0]) ∧ w'.ownsRow w.heap.size 5 1 (.slice A xs.length c) xs.length (vals .u8 xs) ∧ Ext w w'
theorem rd_blk {w : World} {A : Option Addr} {ys : List Nat} (hr : Rd w A (vals .u8 ys)) : ys ≠ [] → ∀ a, A = some a → a.block < w.heap.size := fun hne a ha => by
  obtain ⟨b, off, hA, hc⟩ := hr (by simpa [vals] using hne)
  cases ys with
  | nil => exact absurd rfl hne
  | cons x t => rw [hA] at ha; injection ha with ha; subst ha; exact World.block_lt_of_cell? w _ (hc 0 _ rfl)
theorem ext_row4 {w w2 : World} {g : Nat} (h : Ext w w2) (hg : w.heap.size ≤ g) (a b d e : Value) : Ext w ((((w2.setCell ⟨g, 0, none⟩ a).setCell ⟨g, 1, none⟩ b).setCell ⟨g, 2, none⟩ d).setCell ⟨g, 3, none⟩ e) :=
  (((h.setCell (p := ⟨g, 0, none⟩) hg a).setCell (p := ⟨g, 1, none⟩) hg b).setCell (p := ⟨g, 2, none⟩) hg d).setCell (p := ⟨g, 3, none⟩) hg e

set_option maxHeartbeats 1000000 in
theorem readReq_err (w : World) (A : Option Addr) (n c : Nat) (q : Int) (hq : (q == 0) = false) (ys : List Nat) (hr : Rd w A (vals .u8 ys))
    (hC : ∀ W g, Rd W A (vals .u8 ys) → w.heap.size ≤ W.heap.size → w.heap.size ≤ g → g < W.heap.size → W.heap[g]? = some (.cells #[.int .u8 0, .int .i64 0, .slice none 0 0, .int .i64 0] 34 (0, 0)) → Calls Tryz.prog 112 #[.slice A n c, .func (.func 158) #[] #[.pointer (some ⟨g, 0, none⟩)]] W fun e w' => e = .returned (.int .i64 q) ∧ W.grownBy w' (some g)) :
    Calls Tryz.prog 106 #[.slice A n c] w (RetE (.tuple #[callZ, .int .i64 q]) w) := by
  have hmf : ∀ (fn : Fn) (first cap : Array Value) (w : World), (Instr.makeFunc fn first cap).run Tryz.prog w = .ok (.func fn first cap) w := fun _ _ _ _ => rfl
  have HC := Lib.hid hC; have Hr := Lib.hid hr; clear hC hr
  have hq' : (q != 0) = true := by simp [bne, hq]
  go_enter Tryz.func106, Tryz.ntmps106
  go_wp2_with fail
  refine (HC.out _ (w.heap.size + 1) ((Hr.out.alloc _).alloc _) (by simp; omega) (by omega) (by simp) (blk_newk _ _ (by simp))).mono ?_
  rintro e w2 ⟨rfl, hG⟩
  have K := Lib.hid (blk_grown (blk_past (blk_new w _) _) hG (by omega))
  have hx := ext_grown (((Ext.refl w).alloc _).alloc _) hG (by omega)
  clear hG
  have k0 := blk_cell K.out 0; have k1 := blk_cell K.out 1; have k2 := blk_cell K.out 2; have k3 := blk_cell K.out 3
  have f0 := blk_frozen K.out 0; have f1 := blk_frozen K.out 1; have f2 := blk_frozen K.out 2; have f3 := blk_frozen K.out 3
  go_wp2_with fail
  refine bodyPost_ret (ret_call2 rfl rfl (row4 K.out _ _ _ _)) rfl ?_
  exact ⟨rfl, ext_row4 hx (Nat.le_refl _) _ _ _ _⟩
set_option maxHeartbeats 1000000 in
theorem readReq_good (w : World) (A : Option Addr) (n c : Nat) (ys xs : List Nat) (op p N : Nat) (hr : Rd w A (vals .u8 ys))
    (hC : ∀ W g, Rd W A (vals .u8 ys) → w.heap.size ≤ W.heap.size → w.heap.size ≤ g → g < W.heap.size → W.heap[g]? = some (.cells #[.int .u8 0, .int .i64 0, .slice none 0 0, .int .i64 0] 34 (0, 0)) → Calls Tryz.prog 112 #[.slice A n c, .func (.func 158) #[] #[.pointer (some ⟨g, 0, none⟩)]] W fun e w' => ∃ A c, e = .returned (.int .i64 0) ∧ W.grownBy w' (some g) ∧ w'.heap[g]? = some (.cells #[.int .u8 (op : Int), .int .i64 (p : Int), .slice A xs.length c, .int .i64 (N : Int)] 34 (0, 0)) ∧ w'.ownsRow W.heap.size 5 1 (.slice A xs.length c) xs.length (vals .u8 xs)) :
    Calls Tryz.prog 106 #[.slice A n c] w (RetCall op p xs N w) := by
  have hmf : ∀ (fn : Fn) (first cap : Array Value) (w : World), (Instr.makeFunc fn first cap).run Tryz.prog w = .ok (.func fn first cap) w := fun _ _ _ _ => rfl
  have HC := Lib.hid hC; have Hr := Lib.hid hr; clear hC hr
  go_enter Tryz.func106, Tryz.ntmps106
  go_wp2_with fail
  refine (HC.out _ (w.heap.size + 1) ((Hr.out.alloc _).alloc _) (by simp; omega) (by omega) (by simp) (blk_newk _ _ (by simp))).mono ?_
  rintro e w2 ⟨A1, c1, rfl, hG, hc, ho⟩
  have K := Lib.hid (blk_grown (blk_past (blk_new w _) _) hG (by omega))
  have hx := ext_grown (((Ext.refl w).alloc _).alloc _) hG (by omega)
  have KC := Lib.hid hc
  have Ho : Hid (w2.ownsRow (w.heap.size + 1) 5 1 (.slice A1 xs.length c1) xs.length (vals .u8 xs)) := own_base ho (by simp)
  clear hG hc ho
  have k0 := blk_cell K.out 0; have k1 := blk_cell K.out 1; have k2 := blk_cell K.out 2; have k3 := blk_cell K.out 3
  have f0 := blk_frozen K.out 0; have f1 := blk_frozen K.out 1; have f2 := blk_frozen K.out 2; have f3 := blk_frozen K.out 3
  have c0 := blk_cell KC.out 0; have c1 := blk_cell KC.out 1; have c2 := blk_cell KC.out 2; have c3 := blk_cell KC.out 3
  go_wp2_with fail
  refine bodyPost_ret (ret_call2 rfl rfl (row4 K.out _ _ _ _)) rfl ?_
  exact ⟨A1, _, rfl, own_row4 Ho.out (by omega) _ _ _ _, ext_row4 hx (Nat.le_refl _) _ _ _ _⟩

theorem readReq_ok (w : World) (A : Option Addr) (n c : Nat) (ys xs : List Nat) (op p N : Nat) (hl : ys.length = n) (hn : n ≤ 4096) (hnc : n ≤ c) (hb : ∀ x ∈ ys, x < 256) (hr : Rd w A (vals .u8 ys)) (hB : Begins ys op p xs N []) :
    Calls Tryz.prog 106 #[.slice A n c] w (RetCall op p xs N w) := by
  refine readReq_good w A n c ys xs op p N hr fun W g hR hs1 hs2 hs3 hc => ?_
  exact read_goodQ W A n c g 34 (fun A c => #[.int .u8 (op : Int), .int .i64 (p : Int), .slice A xs.length c, .int .i64 (N : Int)]) ys xs hl hn hnc hR hs3 w.heap.size hs1 (rd_blk hr) fun W' r hI hrr hgW hss => byReq W' r w.heap.size g ys op p N xs [] (by omega) hb hB hI hs2 (by omega) (by omega) (hgW.trans hc)
theorem readReq_none (w : World) (A : Option Addr) (n c : Nat) (ys : List Nat) (hl : ys.length = n) (hn : n ≤ 4096) (hnc : n ≤ c) (hb : ∀ x ∈ ys, x < 256) (hr : Rd w A (vals .u8 ys)) (hno : ¬ IsReq ys) :
    Calls Tryz.prog 106 #[.slice A n c] w (RetE (.tuple #[callZ, .int .i64 3]) w) := by
  refine readReq_err w A n c 3 rfl ys hr fun W g hR hs1 hs2 hs3 hc => ?_
  by_cases hB : ∃ op p xs N rest, Begins ys op p xs N rest
  · obtain ⟨op, p, xs, N, rest, hB⟩ := hB
    have hrest : rest ≠ [] := by rintro rfl; exact hno (begins_isReq.2 ⟨op, p, xs, N, hB⟩)
    exact read_moreQ W A n c g 34 (fun A c => #[.int .u8 (op : Int), .int .i64 (p : Int), .slice A xs.length c, .int .i64 (N : Int)]) ys xs rest hrest hl hn hnc hR hs3 w.heap.size hs1 (rd_blk hr) fun W' r hI hrr hgW hss => byReq W' r w.heap.size g ys op p N xs rest (by omega) hb hB hI hs2 (by omega) (by omega) (hgW.trans hc)
  · exact read_wrongQ W A n c g ys hl hn hnc hR hs3 w.heap.size hs1 (rd_blk hr) fun W' r hI hrr hgW hss => byReq_wrong W' r w.heap.size g ys (by omega) hb (by omega) hB hI
end

section
open Go.RowKit

/-- what Feed leaves: 'all' is what waited and what came -/
def FeedR (all : List Nat) (w : World) (r : Nat) (e : Ending) (w' : World) : Prop :=
  ∃ S A n c, (w.heap.size ≤ S ∧ S ≤ w'.heap.size) ∧ PL w' S A n c (parse all).1 ∧ w.grownBy w' (some r) ∧
    ((parse all).2.2 = true → e = .returned (.tuple #[.slice A n c, .int .i64 12]) ∧ IsRdr w' r [] true (fun b => w.heap.size ≤ b ∧ b < S)) ∧
    ((parse all).2.2 = false → e = .returned (.tuple #[.slice A n c, .int .i64 0]) ∧ IsRdr w' r (parse all).2.1 false (fun b => w.heap.size ≤ b ∧ b < S))

theorem next_w (w : World) (r : Nat) (S : Nat → Prop) (ws : List Nat) (h : IsRdr w r ws false S) (hb : ∀ x ∈ ws, x < 256) (hN : ws.length ≤ 9223372036854775807) (hh : headF ws = 0) :
    Calls Tryz.prog 157 #[.pointer (some ⟨r, 0, none⟩)] w fun e w' => e = .returned (.tuple #[.slice none 0 0, .bool false, .int .i64 0]) ∧ IsRdr w' r ws false S ∧ w.grownBy w' (some r) :=
  (next_any w r S ws h hb hN).mono fun e w' ⟨hg, hc⟩ => by
    rcases hc with ⟨_, h2, h3⟩ | ⟨h1, _⟩ | ⟨h1, _⟩
    · exact ⟨h2, h3, hg⟩
    · omega
    · omega
theorem next_b (w : World) (r : Nat) (S : Nat → Prop) (ws : List Nat) (h : IsRdr w r ws false S) (hb : ∀ x ∈ ws, x < 256) (hN : ws.length ≤ 9223372036854775807) (hh : headF ws = 1) :
    Calls Tryz.prog 157 #[.pointer (some ⟨r, 0, none⟩)] w fun e w' => e = .returned (.tuple #[.slice none 0 0, .bool false, .int .i64 12]) ∧ (∃ A n c, w'.heap[r]? = some (.cells #[.slice A n c, .bool false] 283 (0, 0))) ∧ w.grownBy w' (some r) :=
  (next_any w r S ws h hb hN).mono fun e w' ⟨hg, hc⟩ => by
    rcases hc with ⟨h1, _⟩ | ⟨_, h2, h3⟩ | ⟨h1, _⟩
    · omega
    · exact ⟨h2, h3, hg⟩
    · omega
theorem next_f (w : World) (r : Nat) (S : Nat → Prop) (ws : List Nat) (h : IsRdr w r ws false S) (hb : ∀ x ∈ ws, x < 256) (hN : ws.length ≤ 9223372036854775807) (hh : headF ws = 2) :
    Calls Tryz.prog 157 #[.pointer (some ⟨r, 0, none⟩)] w fun e w' => ∃ A c, e = .returned (.tuple #[.slice A (payF ws).length c, .bool true, .int .i64 0]) ∧ w'.ownsRow w.heap.size 5 1 (.slice A (payF ws).length c) (payF ws).length (vals .u8 (payF ws)) ∧ IsRdr w' r (restF ws) false S ∧ w.grownBy w' (some r) :=
  (next_any w r S ws h hb hN).mono fun e w' ⟨hg, hc⟩ => by
    rcases hc with ⟨h1, _⟩ | ⟨h1, _⟩ | ⟨_, ⟨A, c, h2, h3⟩, h4⟩
    · omega
    · omega
    · exact ⟨A, c, h2, h3, h4, hg⟩

set_option maxRecDepth 100000 in
set_option maxHeartbeats 2000000 in
theorem feed_open (w : World) (r : Nat) (S : Nat → Prop) (ws : List Nat) (A : Option Addr) (n c : Nat) (xs : List Nat) (h : IsRdr w r ws false S) (hws : ∀ x ∈ ws, x < 256) (hl : xs.length = n) (hb : ∀ x ∈ xs, x < 256) (hr : Rd w A (vals .u8 xs))
    (hN : ws.length + n ≤ 5000000000000) :
    Calls Tryz.prog 105 #[.pointer (some ⟨r, 0, none⟩), .slice A n c] w (FeedR (ws ++ xs) w r) := by
  obtain ⟨A0, n0, c0, hblk, hl0, hnc0, hr0, hAS⟩ := h
  have h0 : w.cell? ⟨r, 0, none⟩ = some (.slice A0 n0 c0) := blk_cell hblk 0
  have h1 : w.cell? ⟨r, 1, none⟩ = some (.bool false) := blk_cell hblk 1
  have hrl := blk_lt hblk
  have C1 := Lib.hid (clone_any A0 n0 c0 ws w hl0 (by omega) hr0)
  have hN0 : n0 + n ≤ 5000000000000 := by omega
  have Hblk := Lib.hid hblk; have Hl0 := Lib.hid hl0; have Hr0 := Lib.hid hr0; have HAS := Lib.hid hAS; clear hblk hl0 hr0 hAS
  have Hl := Lib.hid hl; have Hr := Lib.hid hr; have Hb := Lib.hid hb; have Hws := Lib.hid hws; clear hl hr hb hws
  go_enter Tryz.func105, Tryz.ntmps105
  go_wp2_with fail
  refine C1.out.mono ?_
  rintro e w1 ⟨A1, c1, rfl, hown1, hx1⟩
  rw [Hl0.out] at hown1 ⊢
  go_wp2_with (first | (at_builtin; refine app_u8 _ rfl (.tmp 23) (.tmp 24) rfl w.heap.size rfl hown1 rfl Hl.out (Hr.out.ext hx1) (by omega) hx1.size ?_; intro A2 c2 w2 hown2 hgrow2 _; have hx2 : Ext w w2 := hx1.grown hgrow2 (own_ge hown1); have h02 : w2.cell? ⟨r, 0, none⟩ = some (.slice A0 n0 c0) := (hx2.cell (p := ⟨r, 0, none⟩) hrl).trans h0; have hf2 : w2.frozen? ⟨r, 0, none⟩ = false := (hx2.frozen (p := ⟨r, 0, none⟩) hrl).trans (blk_frozen Hblk.out 0)) | fail)
  have hblk2 : (w2.setCell ⟨r, 0, none⟩ (.slice A2 (n0 + n) c2)).heap[r]? = some (.cells #[.slice A2 (n0 + n) c2, .bool false] 283 (0, 0)) := blk_set (blk_ext Hblk.out hx2) 0 _
  have hg2 : w.grownBy (w2.setCell ⟨r, 0, none⟩ (.slice A2 (n0 + n) c2)) (some r) := grown_setCell (grown_ext (World.grownBy.refl w _) hx2) 0 _
  have hall : (ws ++ xs).length = n0 + n := by rw [List.length_append, Hl0.out, Hl.out]
  have hrd2 : IsRdr (w2.setCell ⟨r, 0, none⟩ (.slice A2 (n0 + n) c2)) r (ws ++ xs) false (fun b => w.heap.size ≤ b ∧ b < w2.heap.size) := by
    refine ⟨A2, n0 + n, c2, hblk2, hall, own_cap hown2, ?_, fun a ha => ⟨own_ge hown2 _ (by rw [ha]; rfl), own_lt hown2 a ha⟩⟩
    exact (Rd.of_own hown2).grown (grown_set _ _ _ _) (fun a ha hr => by
      injection hr with hr
      have := (hown2.lt a.block (by rw [ha]; rfl)).1
      omega)
  have hsz2 : w.heap.size ≤ w2.heap.size := hx2.size
  have hball : ∀ x ∈ ws ++ xs, x < 256 := fun x hx => by
    rcases List.mem_append.1 hx with hx | hx
    · exact Hws.out x hx
    · exact Hb.out x hx
  have Hg2 := Lib.hid hg2; have Hrd2 := Lib.hid hrd2; have Hball := Lib.hid hball; have Hall := Lib.hid hall
  clear hown1 hgrow2 hx1 hown2 h02 hf2 hblk2 hg2 hrd2 hball hall h0 h1
  generalize hS : w2.heap.size = S2 at *
  have HS := Lib.hid hS; clear hS
  generalize hAL : ws ++ xs = al at *
  clear hAL
  go_loopg [6] (n0 + n) (fun g out wr => ∃ done todo A n' c, todo.length = g ∧ out = .slice A n' c ∧ PL wr S2 A n' c done ∧ IsRdr wr r todo false (fun b => w.heap.size ≤ b ∧ b < S2) ∧ w.grownBy wr (some r) ∧ S2 ≤ wr.heap.size ∧ (∀ x ∈ todo, x < 256) ∧ n' + todo.length ≤ n0 + n ∧ done ++ (parse todo).1 = (parse al).1 ∧ (parse todo).2 = (parse al).2)
  case atStart => exact ⟨[], al, none, 0, 0, Hall.out, rfl, PL.nil _ _, Hrd2.out, Hg2.out, by have := HS.out; simp; omega, Hball.out, by have := Hall.out; omega, rfl, rfl⟩
  case round =>
    obtain ⟨done, todo, Ao, no, co, hgk, rfl, hPL, hR, hgw, hSw, hbt, hle, hp1, hp2⟩ := hrel
    have hrS2 : r < S2 := by omega
    have HP1 := Lib.hid hp1; have HP2 := Lib.hid hp2; have HPL := Lib.hid hPL; have HR := Lib.hid hR; have HGW := Lib.hid hgw; have HBT := Lib.hid hbt; have HGK := Lib.hid hgk
    clear hp1 hp2 hPL hR hgw hbt hgk
    rcases headF_cases todo with hh | hh | hh
    · have C := Lib.hid (next_w wr r _ todo HR.out HBT.out (by omega) hh)
      have HH := Lib.hid hh; clear hh
      go_wp2_with fail
      refine C.out.mono ?_
      rintro e w4 ⟨rfl, hR4, hg4⟩
      have HR4 := Lib.hid hR4; have HG4 := Lib.hid hg4; clear hR4 hg4
      go_wp2_with fail
      go_ret2
      have e1 := parse_wait HH.out
      refine ⟨S2, Ao, no, co, ⟨hsz2, Nat.le_trans hSw HG4.out.size⟩, ?_, World.grown_trans HGW.out HG4.out, ?_, ?_⟩
      · rw [← HP1.out, e1, List.append_nil]; exact HPL.out.keep HG4.out (fun k hk => by injection hk with hk; omega)
      · intro h; rw [← HP2.out, e1] at h; cases h
      · intro _; rw [← HP2.out, e1]; exact ⟨rfl, HR4.out⟩
    · have C := Lib.hid (next_b wr r _ todo HR.out HBT.out (by omega) hh)
      have HH := Lib.hid hh; clear hh
      go_wp2_with fail
      refine C.out.mono ?_
      rintro e w4 ⟨rfl, ⟨A4, n4, c4, hb4⟩, hg4⟩
      have k0 : w4.cell? ⟨r, 0, none⟩ = some (.slice A4 n4 c4) := blk_cell hb4 0
      have k1 : w4.cell? ⟨r, 1, none⟩ = some (.bool false) := blk_cell hb4 1
      have f0 := blk_frozen hb4 0
      have f1 := blk_frozen hb4 1
      have HB4 := Lib.hid hb4; have HG4 := Lib.hid hg4; clear hb4 hg4
      go_wp2_with fail
      go_ret2
      have e1 := parse_bad HH.out
      have hg5 := grown_setCell (grown_setCell (World.grown_trans HGW.out HG4.out) 1 (.bool true)) 0 (.slice none 0 0)
      refine ⟨S2, Ao, no, co, ⟨hsz2, by simpa using Nat.le_trans hSw HG4.out.size⟩, ?_, hg5, ?_, ?_⟩
      · rw [← HP1.out, e1, List.append_nil]
        exact (HPL.out.keep HG4.out (fun k hk => by injection hk with hk; omega)).keep (grown_setCell (grown_set _ _ _ _) 0 _) (fun k hk => by injection hk with hk; omega)
      · intro _; exact ⟨rfl, none, 0, 0, blk_set (blk_set HB4.out 1 _) 0 _, rfl, Nat.le_refl _, Rd.nil _ _, fun a ha => by cases ha⟩
      · intro h; rw [← HP2.out, e1] at h; cases h
    · have C := Lib.hid (next_f wr r _ todo HR.out HBT.out (by omega) hh)
      have hrl := restF_lt hh
      have hrl1 : (restF todo).length < todo.length := hrl.1
      have hps : 0 < (payF todo).length := by omega
      clear hrl
      have hpm : ∀ x ∈ restF todo, x < 256 := fun x hx => HBT.out x (List.mem_of_mem_drop (List.mem_of_mem_drop hx))
      have HPM := Lib.hid hpm; clear hpm
      have HH := Lib.hid hh; clear hh
      go_wp2_with fail
      refine C.out.mono ?_
      rintro e w4 ⟨A4, c4, rfl, hown4, hR4, hg4⟩
      obtain ⟨vs, hPv⟩ := HPL.out.open_ hg4 (fun k hk => by injection hk with hk; omega)
      have hov := hPv.own
      have HOWN4 := Lib.hid hown4; have HR4 := Lib.hid hR4; have HG4 := Lib.hid hg4; have HPV := Lib.hid hPv; clear hown4 hR4 hg4 hPv
      have hsz4 : wr.heap.size ≤ w4.heap.size := HG4.out.size
      go_wp2_with (first | (at_builtin; refine app_bb _ rfl (.tmp 47) (.tmp 49) rfl S2 rfl (hov.alloc _) rfl (m := 1) (news := [.slice A4 (payF todo).length c4]) rfl (rd_new _ _ _) (fun u hu => by rw [List.mem_singleton.1 hu]; rfl) (by omega) (by simp; omega) ?_; intro B5 cb5 w5 hown5 hgrow5 _) | fail)
      go_roundg (restF todo).length
      case measure => have := HGK.out; omega
      case rel =>
        have hx5 : w4.grownBy w5 (Value.slice Ao no co).ownBlock := World.grown_trans (World.grownBy_alloc _ _ _) hgrow5
        have e1 := parse_frame HH.out
        have hrow : ∀ k, (Value.slice Ao no co).ownBlock = some k → S2 ≤ k := own_ge hov
        obtain ⟨A6, n6, c6, q1, q2, q3, q4, q6⟩ := HR4.out
        have q7 : w5.heap[r]? = some (.cells #[.slice A6 n6 c6, .bool false] 283 (0, 0)) := (hx5.block r (blk_lt q1) (fun e => by have := hrow r e.symm; omega)).trans q1
        refine ⟨done ++ [payF todo], restF todo, B5, no + 1, cb5, rfl, rfl, ?_, ⟨A6, n6, c6, q7, q2, q3, q4.grown hx5 (fun a ha hr => by have := hrow _ hr; have := (q6 a ha).2; omega), q6⟩, ?_, ?_, HPM.out, ?_, ?_, ?_⟩
        · exact HPV.out.snoc HOWN4.out hps hSw hsz4 (World.grownBy_alloc _ _ _) hown5 hgrow5
        · have hg := World.grown_trans HGW.out HG4.out
          exact ⟨hx5.os.trans hg.os, hx5.tape.trans hg.tape, hx5.output.trans hg.output, Nat.le_trans hg.size hx5.size, fun i hi hne => (hx5.block i (Nat.lt_of_lt_of_le hi hg.size) (fun e => by have := hrow i e.symm; omega)).trans (hg.block i hi hne)⟩
        · have := hx5.size; omega
        · omega
        · rw [← HP1.out, e1]; simp
        · rw [← HP2.out, e1]
end

section
open Go.RowKit

theorem frNew (w : World) :
    Calls Tryz.prog 150 #[] w fun e w' => e = .returned (.pointer (some ⟨w.heap.size, 0, none⟩)) ∧ IsRdr w' w.heap.size [] false (fun _ => False) ∧ Ext w w' ∧ w.heap.size + 1 = w'.heap.size := by
  go_enter Tryz.func150, Tryz.ntmps150
  go_wp2_with fail
  go_ret
  exact ⟨rfl, ⟨none, 0, 0, blk_new w _, rfl, Nat.le_refl _, Rd.nil _ _, fun a ha => by cases ha⟩, (Ext.refl w).alloc _, by simp⟩

/-- the four bytes of a length -/
def len4 (n : Nat) : List Nat := [n / 16777216 % 256, n / 65536 % 256, n / 256 % 256, n % 256]
theorem len4_num (n : Nat) (h : n < 4294967296) : numB (len4 n) = n := by
  have e : numB (len4 n) = (((0 * 256 + n / 16777216 % 256) * 256 + n / 65536 % 256) * 256 + n / 256 % 256) * 256 + n % 256 := rfl
  rw [e]; omega
set_option maxHeartbeats 400000 in
theorem frEncode_ok (w : World) (A : Option Addr) (n c : Nat) (xs : List Nat) (h : n ≤ 4096) (h0 : 1 ≤ n) (hl : xs.length = n) (hr : Rd w A (vals .u8 xs)) :
    Calls Tryz.prog 22 #[.slice A n c] w (RetBE (len4 n ++ xs) 0 w) := by
  have hne : ((n : Int) == 0) = false := by rw [beq_eq_false_iff_ne]; omega
  have Hl := Lib.hid hl; have Hr := Lib.hid hr; clear hl hr
  have ho := fun (x0 x1 x2 x3 : Int) (e0 : x0 = ((n / 16777216 % 256 : Nat) : Int)) (e1 : x1 = ((n / 65536 % 256 : Nat) : Int)) (e2 : x2 = ((n / 256 % 256 : Nat) : Int)) (e3 : x3 = ((n % 256 : Nat) : Int)) => show (w.alloc (.cells #[.int .u8 x0, .int .u8 x1, .int .u8 x2, .int .u8 x3] 5)).ownsRow w.heap.size 5 1 (.slice (some ⟨w.heap.size, 0, none⟩) 4 4) 4 (vals .u8 (len4 n)) by
    subst e0 e1 e2 e3
    exact own_made w _ 5 1 4 rfl (by unfold maxLen; omega) (Nat.le_refl _)
  go_enter Tryz.func22, Tryz.ntmps22
  go_wp2_with (first | (at_builtin; refine app_u8 _ rfl (.tmp 24) (.tmp 25) rfl w.heap.size rfl (ho _ _ _ _ (by omega) (by omega) (by omega) (by omega)) rfl Hl.out (Hr.out.alloc _) (by omega) (by simp) ?_; intro A1 c1 w1 hown1 hgrow1 _) | fail)
  go_ret2
  exact retBE_of (by rw [List.length_append, Hl.out]; rfl) hown1 (((Ext.refl w).alloc _).grown hgrow1 (by simp [Value.ownBlock]))
end

section
open Go.RowKit

/-- reads as a list of lists of bytes -/
def RdBB (w : World) (A : Option Addr) (pss : List (List Nat)) : Prop :=
  ∃ vs : List Value, vs.length = pss.length ∧ Rd w A vs ∧ ∀ (i : Nat) (ps : List Nat), pss[i]? = some ps → ∃ (Ai : Option Addr) (ci : Nat), vs[i]? = some (Value.slice Ai ps.length ci) ∧ ps.length ≤ ci ∧ Rd w Ai (vals .u8 ps)
theorem PL.rd {w : World} {base : Nat} {A : Option Addr} {n c : Nat} {pss : List (List Nat)} (h : PL w base A n c pss) : RdBB w A pss := by
  obtain ⟨hl, vs, gs, ho, _, _, _, hall⟩ := h
  refine ⟨vs, by rw [hl]; have := ho.1; omega, Rd.of_own ho, fun i ps hi => ?_⟩
  obtain ⟨g, ci, _, h2, h3⟩ := hall i ps hi
  exact ⟨_, ci, h2, own_cap h3, Rd.of_own h3⟩
theorem RdBB.at_ {w : World} {A : Option Addr} {pss : List (List Nat)} (h : RdBB w A pss) {k : Nat} {ps : List Nat} (hk : pss[k]? = some ps) :
    ∃ b off Ai ci, A = some ⟨b, off, none⟩ ∧ w.cell? ⟨b, off + k, none⟩ = some (.slice Ai ps.length ci) ∧ ps.length ≤ ci ∧ Rd w Ai (vals .u8 ps) := by
  obtain ⟨vs, hl, hr, hall⟩ := h
  obtain ⟨Ai, ci, h1, h2, h3⟩ := hall k ps hk
  obtain ⟨b, off, hA, hc⟩ := hr (by intro e; rw [e] at h1; simp at h1)
  exact ⟨b, off, Ai, ci, hA, hc k _ h1, h2, h3⟩
end

section
open Go.RowKit
open Go.ChangeShapes Go.WideShapes Go.ChangeAt

/-- true, and nothing that was there has turned -/
def RetTrue (w : World) (e : Ending) (w' : World) : Prop := e = .returned (.bool true) ∧ Ext w w'
def unsignedB : IntKind → Bool
  | .u8 | .u16 | .u32 | .u64 => true
  | _ => false

section
variable {H : Type} {enc : TypeId × Value → H} {P : Program}

theorem rd_of_cells {w : World} {a : Addr} {vs : List Value} (hc : ∀ i u, vs[i]? = some u → w.cell? (a.add i) = some u) : Rd w (some a) vs := by
  intro hne
  obtain ⟨b, off, spot⟩ := a
  have h0 : ∃ u, vs[0]? = some u := by
    cases vs with
    | nil => exact absurd rfl hne
    | cons v vs => exact ⟨v, rfl⟩
  obtain ⟨u, hu⟩ := h0
  have hc0 := hc 0 u hu
  have hspot : spot = none := by simpa [Addr.add] using World.cell?_spot hc0
  subst hspot
  refine ⟨b, off, rfl, fun j u hu => ?_⟩
  have := hc j u hu
  rwa [Addr.add_lit] at this

/-- what a reading says of a slice's size -/
def SizeOf (d : DataW H) (len cap : Nat) : Prop := (d = .nil ∧ len = 0 ∧ cap = 0) ∨ ∃ es sp : List (DataW H), d = .slice es sp ∧ es.length = len ∧ es.length + sp.length = cap

theorem open_intsL {t e : TypeId} {k : IntKind} {W : World} {a : Option Addr} {len cap : Nat} {d : DataW H} {p : List MemPlace} (ht : P.underlying t = some (.slice e)) (he : P.underlying e = some (.int k)) (hc : P.cellsOf e = 1)
    (h : DataW.Trod enc P W 0 (fun _ => true) true t (.slice a len cap) d p) :
    ∃ zs : List Int, zs.length = len ∧ (∀ z ∈ zs, (Lit.int k z).wf = true) ∧ Rd W a (zs.map (Value.int k)) ∧ len ≤ cap ∧ cap ≤ maxLen ∧ SizeOf d len cap := by
  obtain ⟨fuel, hf⟩ := h
  rcases open_ints ht he hc hf with ⟨hcs, hx⟩ | ⟨x, l, c, zs, hcs, _, hl, hm, hz, hx, hcell, hwz⟩
  · simp [Value.cells] at hcs
    obtain ⟨rfl, rfl, rfl⟩ := hcs
    simp only [Prod.mk.injEq] at hx
    exact ⟨[], rfl, by simp, Rd.nil _ _, Nat.le_refl _, Nat.zero_le _, .inl ⟨hx.1, rfl, rfl⟩⟩
  · simp [Value.cells] at hcs
    obtain ⟨rfl, rfl, rfl⟩ := hcs
    simp only [Prod.mk.injEq] at hx
    simp only [if_true] at hz
    have hz : zs.length = cap := hz
    refine ⟨zs.take len, by simp; omega, fun z hz => hwz z (List.mem_of_mem_take hz), ?_, hl, hm, .inr ⟨_, _, hx.1, by simp [lits]; omega, by simp [lits]; omega⟩⟩
    refine rd_of_cells fun i u hu => ?_
    rw [List.getElem?_map] at hu
    cases hi : (zs.take len)[i]? with
    | none => rw [hi] at hu; cases hu
    | some z =>
      rw [hi] at hu
      injection hu with hu
      subst hu
      have hil := (List.getElem?_eq_some_iff.1 hi).1
      have hil' : i < zs.length := by simp at hil; omega
      rw [hcell i hil']
      rw [List.getElem?_take] at hi
      split at hi
      · rw [List.getD_eq_getElem?_getD, hi]; rfl
      · cases hi

theorem open_nats {t e : TypeId} {k : IntKind} {W : World} {a : Option Addr} {len cap : Nat} {d : DataW H} {p : List MemPlace} (ht : P.underlying t = some (.slice e)) (he : P.underlying e = some (.int k)) (hc : P.cellsOf e = 1) (hk : unsignedB k = true)
    (h : DataW.Trod enc P W 0 (fun _ => true) true t (.slice a len cap) d p) :
    ∃ xs : List Nat, xs.length = len ∧ (∀ x ∈ xs, x < 2 ^ k.bits) ∧ Rd W a (vals k xs) ∧ len ≤ cap ∧ cap ≤ maxLen ∧ SizeOf d len cap := by
  obtain ⟨zs, hl, hw, hr, h1, h2, h3⟩ := open_intsL ht he hc h
  have hb : ∀ z ∈ zs, 0 ≤ z ∧ z.toNat < 2 ^ k.bits := by
    intro z hz
    have := hw z hz
    cases k <;> simp [unsignedB] at hk <;> simp [Lit.wf, IntKind.min, IntKind.max, IntKind.signed, IntKind.bits] at this ⊢ <;> omega
  refine ⟨zs.map Int.toNat, by simpa using hl, ?_, ?_, h1, h2, h3⟩
  · intro x hx
    obtain ⟨z, hz, rfl⟩ := List.mem_map.1 hx
    exact (hb z hz).2
  · have e : vals k (zs.map Int.toNat) = zs.map (Value.int k) := by
      unfold vals
      rw [List.map_map]
      refine List.map_congr_left fun z hz => ?_
      simp only [Function.comp, Int.toNat_of_nonneg (hb z hz).1]
    rw [e]
    exact hr

theorem reach_of {ts : List TypeId} {ds : List (DataW H)} (h : (DataW.weightsEach P ts ds).all (· ≤ reachBytes) = true) {j : Nat} {t e : TypeId} {d : DataW H} {len cap : Nat} (ht : ts[j]? = some t) (hd : ds[j]? = some d) (hu : P.underlying t = some (.slice e)) (hs : SizeOf d len cap) :
    cap * P.bytesOf e ≤ 140737488351232 := by
  rcases hs with ⟨_, _, rfl⟩ | ⟨es, sp, rfl, _, hc⟩
  · omega
  · have := sized_slice h ht hd hu
    rw [hc] at this
    exact this

theorem nat_of {k : IntKind} {a : Int} (hk : unsignedB k = true) (h : (Lit.int k a).wf = true) : ∃ n : Nat, a = (n : Int) ∧ n < 2 ^ k.bits := by
  refine ⟨a.toNat, ?_, ?_⟩
  · cases k <;> simp [unsignedB] at hk <;> simp [Lit.wf, IntKind.min, IntKind.max, IntKind.signed, IntKind.bits] at h ⊢ <;> omega
  · cases k <;> simp [unsignedB] at hk <;> simp [Lit.wf, IntKind.min, IntKind.max, IntKind.signed, IntKind.bits] at h ⊢ <;> omega
end
end

section
open Go.RowKit
end

section
open Go.RowKit

theorem parse_small : ∀ (n : Nat) (xs : List Nat), xs.length < n →
    (parse xs).1.length + (parse xs).2.1.length ≤ xs.length ∧ (∀ x ∈ (parse xs).2.1, x ∈ xs) ∧ ∀ ps ∈ (parse xs).1, ps.length ≤ 4096 ∧ ∀ x ∈ ps, x ∈ xs
  | 0, _, h => by omega
  | n + 1, xs, hn => by
    rcases headF_cases xs with h | h | h
    · rw [parse_wait h]; simp
    · rw [parse_bad h]; simp
    · have h1 := restF_lt h
      rw [parse_frame h]
      obtain ⟨i1, i2, i3⟩ := parse_small n (restF xs) (by omega)
      have hm : ∀ x ∈ restF xs, x ∈ xs := fun x hx => List.mem_of_mem_drop (List.mem_of_mem_drop hx)
      refine ⟨by simp only [List.length_cons]; omega, fun x hx => hm x (i2 x hx), fun ps hp => ?_⟩
      rcases List.mem_cons.1 hp with rfl | hp
      · exact ⟨by omega, fun x hx => List.mem_of_mem_drop (List.mem_of_mem_take hx)⟩
      · exact ⟨(i3 ps hp).1, fun x hx => hm x ((i3 ps hp).2 x hx)⟩
def endF (ws : List Nat) : Int := if (parse ws).2.2 = true then 12 else 0
def leftF (ws : List Nat) : List Nat := if (parse ws).2.2 = true then [] else (parse ws).2.1
theorem parse_nil : parse [] = ([], [], false) := parse_wait rfl
end

section
open Go.RowKit

/-- a cut from k to h, wherever it stands -/
theorem slice_mid_any {P : Program} {t e : TypeId} (ht : P.underlying t = some (.slice e)) (hz : ∀ u : World, (sizeOf e).run P u = .ok 1 u) {A : Option Addr} {n c m d : Nat} (k h : Nat) {ki hi : Int} (hki : ki = (k : Int)) (hhi : hi = (h : Int)) (hhn : h ≤ n) (hnc : n ≤ c) (hm : h = m + k) (hd : c = d + k) :
    ∃ A' : Option Addr, (∀ u : World, (Instr.slice t (.slice A n c) (some (.int .i64 ki)) (some (.int .i64 hi)) none).run P u = .ok (.slice A' m d) u) ∧
      (∀ (w : World) (vs : List Value), vs.length = n → Rd w A vs → Rd w A' ((vs.drop k).take m)) := by
  subst hki hhi
  have he : P.elem t = e := by simp [Program.elem, ht]
  refine ⟨if c = k then A else A.map (·.add k), fun u => ?_, fun w vs hl hr hne => ?_⟩
  · rw [run_slice_lh (P := P) u t A n c (by rw [he]; exact ht) .i64 .i64 (k : Int) (h : Int) (by omega) (by omega) (by omega), he, hz]
    simp only [Result.andThen, sliced, Int.toNat_natCast, Nat.mul_one]
    congr 2 <;> omega
  · have hvn : vs ≠ [] := by rintro rfl; simp at hne
    obtain ⟨b, off, rfl, hc⟩ := hr hvn
    have hck : ¬ c = k := by
      intro h
      apply hne
      rw [List.drop_of_length_le (by omega)]
      simp
    rw [if_neg hck]
    refine ⟨b, off + k, by simp [Addr.add_lit], fun j u hu => ?_⟩
    rw [Nat.add_assoc]
    refine hc (k + j) u ?_
    rw [List.getElem?_take] at hu
    split at hu
    · rw [← hu, List.getElem?_drop]
    · cases hu

theorem feedR_any {al : List Nat} {w : World} {r : Nat} {e : Ending} {w' : World} (h : FeedR al w r e w') :
    ∃ S A n c, e = .returned (.tuple #[.slice A n c, .int .i64 (endF al)]) ∧ (parse al).1.length = n ∧ (w.heap.size ≤ S ∧ S ≤ w'.heap.size) ∧ PL w' S A n c (parse al).1 ∧ IsRdr w' r (leftF al) (parse al).2.2 (fun b => w.heap.size ≤ b ∧ b < S) ∧ w.grownBy w' (some r) := by
  obtain ⟨S, A, n, c, h1, h2, h3, h4, h5⟩ := h
  refine ⟨S, A, n, c, ?_, h2.1, h1, h2, ?_, h3⟩
  · unfold endF
    by_cases hb : (parse al).2.2 = true
    · rw [if_pos hb]; exact (h4 hb).1
    · rw [if_neg hb]; exact (h5 (by simpa using hb)).1
  · unfold leftF
    by_cases hb : (parse al).2.2 = true
    · rw [if_pos hb, hb]; exact (h4 hb).2
    · rw [if_neg hb, show (parse al).2.2 = false by simpa using hb]; exact (h5 (by simpa using hb)).2

theorem IsRdr.gb {w w' : World} {r : Nat} {ws : List Nat} {cl : Bool} {S M : Nat → Prop} (h : IsRdr w r ws cl S) (g : GB w w' M) (hr : ¬ M r) (hs : ∀ b, S b → ¬ M b) : IsRdr w' r ws cl S := by
  obtain ⟨A, n, c, h1, h2, h3, h4, h5⟩ := h
  exact ⟨A, n, c, g.blk h1 hr, h2, h3, g.rd h4 (fun p hp => hs _ (h5 p hp)), h5⟩
end

section
open Go.RowKit

theorem len4_len (n : Nat) : (len4 n).length = 4 := rfl
theorem len4_lt (n : Nat) : ∀ x ∈ len4 n, x < 256 := by
  intro x hx
  simp only [len4, List.mem_cons, List.not_mem_nil, or_false] at hx
  rcases hx with rfl | rfl | rfl | rfl <;> exact Nat.mod_lt _ (by omega)
theorem take4 (n : Nat) (ys : List Nat) : (len4 n ++ ys).take 4 = len4 n := by
  rw [List.take_append_of_le_length (by rw [len4_len]; omega), List.take_of_length_le (by rw [len4_len]; omega)]
theorem drop4 (n : Nat) (ys : List Nat) : (len4 n ++ ys).drop 4 = ys := by
  rw [List.drop_append_of_le_length (by rw [len4_len]; omega), List.drop_of_length_le (by rw [len4_len]; omega), List.nil_append]
/-- a frame at the head -/
theorem parse_enc (p ys : List Nat) (h0 : 1 ≤ p.length) (h : p.length ≤ 4096) : parse (len4 p.length ++ (p ++ ys)) = (p :: (parse ys).1, (parse ys).2.1, (parse ys).2.2) := by
  have hn := len4_num p.length (by omega)
  have e0 : (len4 p.length ++ (p ++ ys)).length = 4 + (p.length + ys.length) := by rw [List.length_append, len4_len, List.length_append]
  have hh : headF (len4 p.length ++ (p ++ ys)) = 2 := by
    unfold headF
    rw [e0, take4, hn, if_neg (by omega), if_neg (by omega), if_neg (by omega)]
  have hp : payF (len4 p.length ++ (p ++ ys)) = p := by
    unfold payF
    rw [take4, drop4, hn, List.take_append_of_le_length (by omega), List.take_of_length_le (by omega)]
  have hr : restF (len4 p.length ++ (p ++ ys)) = ys := by
    unfold restF
    rw [take4, drop4, hn, List.drop_append_of_le_length (by omega), List.drop_of_length_le (by omega), List.nil_append]
  rw [parse_frame hh, hp, hr]
end

section
open Go.RowKit

abbrev wrepV (e : Int) (g : Bool) (l t s n : Int) : Value := .agg #[.int .i64 e, .bool g, .int .i64 l, .int .i64 t, .int .i64 s, .int .i64 n]
def words (ns : List Nat) : List Nat := ns.flatMap fun n => wordB n 8
def oneIf (g : Bool) : Nat := if g then 1 else 0
/-- a reply's bytes -/
def repB (e : Nat) (g : Bool) (ns : List Nat) : List Nat := e :: oneIf g :: words ns
theorem words_len (ns : List Nat) : (words ns).length = 8 * ns.length := by
  induction ns with
  | nil => rfl
  | cons n ns ih => show (wordB n 8 ++ words ns).length = _; rw [List.length_append, wordB_len, ih, List.length_cons]; omega
theorem words_snoc (ns : List Nat) (n : Nat) : words (ns ++ [n]) = words ns ++ wordB n 8 := by simp [words, List.flatMap_append]
theorem repB_len (e : Nat) (g : Bool) (ns : List Nat) : (repB e g ns).length = 8 * ns.length + 2 := by
  show (e :: oneIf g :: words ns).length = _
  rw [List.length_cons, List.length_cons, words_len]
def okN (n : Int) : Prop := 0 ≤ n ∧ n ≤ 4611686018427387903
/-- the numbers ahead of k are right; as natural numbers -/
def HeadOk (L : List Int) (k : Nat) (ns : List Nat) : Prop := ns.length = k ∧ ns.map (fun (x : Nat) => (x : Int)) = L.take k ∧ ∀ x ∈ ns, x ≤ 4611686018427387903
theorem headOk_succ {L : List Int} {k : Nat} {ns : List Nat} {v : Int} (h : HeadOk L k ns) (hv : L[k]? = some v) (h1 : 0 ≤ v) (h2 : v ≤ 4611686018427387903) : HeadOk L (k + 1) (ns ++ [v.toNat]) := by
  obtain ⟨a, b, c⟩ := h
  refine ⟨by simp [a], ?_, ?_⟩
  · rw [List.map_append, b, take_succ_of hv]
    simp only [List.map_cons, List.map_nil]
    rw [Int.toNat_of_nonneg h1]
  · intro x hx
    rcases List.mem_append.1 hx with hx | hx
    · exact c x hx
    · rw [List.mem_singleton.1 hx]; omega
/-- what Reply answers -/
def RepIs (e : Int) (g : Bool) (L : List Int) (q : Int) (B : List Nat) : Prop :=
  (q = 1 ∧ B = [] ∧ ¬ (0 ≤ e ∧ e ≤ 16 ∧ ∀ x ∈ L, okN x)) ∨ (q = 0 ∧ 0 ≤ e ∧ e ≤ 16 ∧ ∃ ns, HeadOk L 4 ns ∧ B = repB e.toNat g ns)
def RetRep (e : Int) (g : Bool) (L : List Int) (w : World) (x : Ending) (w' : World) : Prop := ∃ q B, RepIs e g L q B ∧ RetBE B q w x w'
theorem grown_row {w a b : World} {row row' : Option Nat} (h : w.grownBy a row) (k : a.grownBy b row') (hr : ∀ q, row' = some q → row = some q ∨ w.heap.size ≤ q) : w.grownBy b row :=
  ⟨k.os.trans h.os, k.tape.trans h.tape, k.output.trans h.output, Nat.le_trans h.size k.size, fun i hi hne => (k.block i (Nat.lt_of_lt_of_le hi h.size) (fun e => by
    rcases hr i e.symm with h' | h'
    · exact hne h'.symm
    · omega)).trans (h.block i hi hne)⟩
set_option maxHeartbeats 2000000 in
theorem wireNum2 (w : World) (base : Nat) (A : Option Addr) (m c : Nat) (xs : List Nat) (v : Nat) (hl : xs.length = m) (ho : w.ownsRow base 5 1 (.slice A m c) m (vals .u8 xs)) (hbw : base ≤ w.heap.size)
    (hv : v < 9223372036854775808) (hm : m ≤ 1000000) :
    Calls Tryz.prog 108 #[.slice A m c, .int .i64 (v : Int)] w fun e w' => ∃ A' c', e = .returned (.slice A' (m + 8) c') ∧ w'.ownsRow base 5 1 (.slice A' (m + 8) c') (m + 8) (vals .u8 (xs ++ wordB v 8)) ∧ w.grownBy w' (Value.slice A m c).ownBlock ∧
      ∀ q, (Value.slice A' (m + 8) c').ownBlock = some q → (Value.slice A m c).ownBlock = some q ∨ w.heap.size ≤ q := by
  have Ho := Lib.hid ho; have Hl := Lib.hid hl; clear ho hl
  go_enter Tryz.func108, Tryz.ntmps108
  go_wp2_with fail
  go_loopg [0, 5] 8 (fun g v0 v5 wr => ∃ (j : Nat) (A' : Option Addr) (c' : Nat), j ≤ 8 ∧ g = 8 - j ∧ v0 = .slice A' (m + j) c' ∧ v5 = .int .i64 (56 - 8 * (j : Int)) ∧ w.grownBy wr (Value.slice A m c).ownBlock ∧
    wr.ownsRow base 5 1 (.slice A' (m + j) c') (m + j) (vals .u8 (xs ++ (wordB v 8).take j)) ∧ ∀ q, (Value.slice A' (m + j) c').ownBlock = some q → (Value.slice A m c).ownBlock = some q ∨ w.heap.size ≤ q)
  case atStart =>
    exact ⟨0, A, c, Nat.zero_le _, rfl, rfl, by go_num, World.grownBy.refl _ _, by simpa using Ho.out, fun q hq => .inl hq⟩
  case round =>
    obtain ⟨j, A', c', hj, rfl, rfl, rfl, hxr, hor, hrow⟩ := hrel
    have Hxr := Lib.hid hxr; have Hrow := Lib.hid hrow; clear hxr hrow
    by_cases hlt : j < 8
    · have hg := wordB_get v 8 j hlt
      obtain ⟨t, ht⟩ : ∃ t, t = 8 * (7 - j) := ⟨_, rfl⟩
      have e1 : (56 - 8 * (j : Int)) = (t : Int) := by omega
      have e2 : v / 256 ^ (8 - 1 - j) % 256 = v / 2 ^ t % 256 := by
        rw [ht, show (256 : Nat) = 2 ^ 8 from rfl, ← Nat.pow_mul]
      rw [e2] at hg
      rw [e1]
      have Hg := Lib.hid hg
      have hib := Lib.hid (show ((v : Int) / 2 ^ t % 256) = ((v / 2 ^ t % 256 : Nat) : Int) by simp only [Int.natCast_emod, Int.natCast_ediv, Int.natCast_pow]; rfl)
      have ht56 : t ≤ 56 := by omega
      have Ht := Lib.hid ht
      have hsz : w.heap.size ≤ wr.heap.size := Hxr.out.size
      clear hg e1 e2 ht
      go_wp2_with (first | (at_builtin; refine app_u8 _ rfl (.tmp 10) (.tmp 16) rfl base rfl (hor.alloc _) rfl (m := 1) (news := [v / 2 ^ t % 256]) rfl (rd_one _ _ _ hib.out) (by omega) (by simp; omega) ?_; intro A1 c1 w1 hown1 hgrow1 hblk1) | fail)
      go_roundg (8 - (j + 1))
      case measure => omega
      case rel =>
        refine ⟨j + 1, A1, c1, hlt, rfl, rfl, by have := Ht.out; go_num, grown_row (grown_alloc Hxr.out _) hgrow1 Hrow.out, ?_, fun q hq => ?_⟩
        · rw [take_succ_of Hg.out, ← List.append_assoc]
          exact hown1
        · rcases hblk1 with h | h
          · exact Hrow.out q (h.symm.trans hq)
          · have h2 := h.symm.trans hq
            injection h2 with h2
            right; simp at h2; omega
    · obtain rfl : j = 8 := by omega
      have e : (wordB v 8).take 8 = wordB v 8 := List.take_of_length_le (by rw [wordB_len]; omega)
      rw [e] at hor
      have Hor := Lib.hid hor
      clear hor e
      go_wp2_with fail
      go_ret
      exact ⟨A', c', rfl, Hor.out, Hxr.out, Hrow.out⟩
theorem ext_none {w a : World} (h : w.grownBy a none) : Ext w a := ⟨h.os, h.tape, h.output, h.size, fun i hi => h.block i hi (by simp)⟩
set_option maxHeartbeats 4000000 in
set_option maxRecDepth 100000 in
theorem reply_false (w : World) (e : Nat) (l t s n : Int) (he : e ≤ 16) : Calls Tryz.prog 152 #[wrepV (e : Int) false l t s n] w (RetRep (e : Int) false [l, t, s, n] w) := by
  have hw : IntKind.u8.wrap (e : Int) = (e : Int) := by rw [IntKind.wrap_u8]; omega
  go_enter Tryz.func152, Tryz.ntmps152
  go_wp2_with fail
  go_loopg [4, 33] 4 (fun x v4 v33 wr => ∃ (k : Nat) (A : Option Addr) (c : Nat) (ns : List Nat), k ≤ 4 ∧ x = 4 - k ∧ v4 = .slice A (2 + 8 * k) c ∧ v33 = .int .i64 (k : Int) ∧ HeadOk [l, t, s, n] k ns ∧ w.grownBy wr none ∧
    wr.heap[w.heap.size + 1 + 1]? = some (.cells #[.int .i64 l, .int .i64 t, .int .i64 s, .int .i64 n] 2 (0, 0)) ∧ (Value.slice A (2 + 8 * k) c).ownBlock ≠ some (w.heap.size + 1 + 1) ∧
    wr.ownsRow (w.heap.size + 1) 5 1 (.slice A (2 + 8 * k) c) (2 + 8 * k) (vals .u8 (e :: oneIf false :: words ns)))
  case atStart =>
    refine ⟨0, some ⟨w.heap.size + 1, 0, none⟩, 2, [], by omega, rfl, rfl, rfl, ⟨rfl, rfl, by simp⟩, grown_alloc (grown_alloc (grown_alloc (World.grownBy.refl w none) _) _) _, blk_newk _ _ (by simp), by simp [Value.ownBlock], ?_⟩
    exact own_in (own_madek _ [.int .u8 (e : Int), .int .u8 0] 5 1 2 rfl (by unfold maxLen; omega) (by simp) (Nat.le_refl _)) _
  case round =>
    obtain ⟨k, A, c, ns, hk, rfl, rfl, rfl, hH, hG, hL, hne, ho⟩ := hrel
    have HH := Lib.hid hH; have HG := Lib.hid hG; have HL := Lib.hid hL; have Hne := Lib.hid hne; have Ho := Lib.hid ho
    clear hH hG hL hne ho
    by_cases hlt : k < 4
    · obtain ⟨v, hv⟩ : ∃ v : Int, ([l, t, s, n] : List Int)[k]? = some v := ⟨_, List.getElem?_eq_getElem hlt⟩
      have hcv : wr.cell? ⟨w.heap.size + 1 + 1, k, none⟩ = some (.int .i64 v) := by
        rw [blk_cell HL.out k]
        have hk4 : k = 0 ∨ k = 1 ∨ k = 2 ∨ k = 3 := by omega
        rcases hk4 with rfl | rfl | rfl | rfl <;> (simp at hv; subst hv; rfl)
      have Hv := Lib.hid hv; clear hv
      have hlen : (e :: oneIf false :: words ns).length = 2 + 8 * k := by
        rw [List.length_cons, List.length_cons, words_len, HH.out.1]; omega
      have Hlen := Lib.hid hlen; clear hlen
      have hws : w.heap.size + 1 + 1 < wr.heap.size := blk_lt HL.out
      by_cases hok : v < 0 ∨ 4611686018427387903 < v
      · have Hok := Lib.hid hok
        go_wp2_with fail
        refine (form_bad v _ hok).mono ?_
        rintro e' w1 ⟨rfl, rfl⟩
        go_wp2_with fail
        go_ret2
        refine ⟨1, [], .inl ⟨rfl, rfl, fun h => ?_⟩, retBE_none ⟨rfl, ext_none HG.out⟩⟩
        have := h.2.2 v (List.mem_of_getElem? Hv.out)
        have := Hok.out
        unfold okN at *
        omega
      · obtain ⟨V, rfl⟩ : ∃ V : Nat, v = (V : Int) := ⟨v.toNat, by omega⟩
        have hV : V ≤ 4611686018427387903 := by omega
        clear hok
        have C := Lib.hid (wireNum2 wr (w.heap.size + 1) A (2 + 8 * k) c _ V Hlen.out Ho.out (by omega) (by omega) (by omega))
        go_wp2_with fail
        refine (form_ok (V : Int) _ (by omega) (by omega)).mono ?_
        rintro e' w1 ⟨rfl, rfl⟩
        go_wp2_with fail
        refine C.out.mono ?_
        rintro e' w1 ⟨A1, c1, rfl, ho1, hg1, hr1⟩
        have Ho1 := Lib.hid ho1; have Hg1 := Lib.hid hg1; have Hr1 := Lib.hid hr1
        clear ho1 hg1 hr1 C
        go_wp2_with fail
        go_roundg (4 - (k + 1))
        case measure => omega
        case rel =>
          have hH := headOk_succ HH.out Hv.out (by omega) (by omega)
          rw [Int.toNat_natCast] at hH
          refine ⟨k + 1, A1, c1, ns ++ [V], by omega, rfl, by rw [show 2 + 8 * (k + 1) = 2 + 8 * k + 8 by omega], by go_num, hH, ?_, ?_, ?_, ?_⟩
          · exact grown_row HG.out Hg1.out (fun q hq => .inr (by have := own_ge Ho.out q hq; omega))
          · exact (Hg1.out.block _ (blk_lt HL.out) (fun e => Hne.out e.symm)).trans HL.out
          · rw [show 2 + 8 * (k + 1) = 2 + 8 * k + 8 by omega]
            intro h
            rcases Hr1.out _ h with h' | h'
            · exact Hne.out h'
            · omega
          · rw [words_snoc, show 2 + 8 * (k + 1) = 2 + 8 * k + 8 by omega]
            exact Ho1.out
    · obtain rfl : k = 4 := by omega
      go_wp2_with fail
      go_ret2
      refine ⟨0, repB e false ns, .inr ⟨rfl, by omega, by omega, ns, HH.out, rfl⟩, ?_⟩
      exact retBE_of (by rw [repB_len, HH.out.1]) (own_base Ho.out (by omega)) (ext_none HG.out)
set_option maxHeartbeats 4000000 in
set_option maxRecDepth 100000 in
theorem reply_true (w : World) (e : Nat) (l t s n : Int) (he : e ≤ 16) : Calls Tryz.prog 152 #[wrepV (e : Int) true l t s n] w (RetRep (e : Int) true [l, t, s, n] w) := by
  have hw : IntKind.u8.wrap (e : Int) = (e : Int) := by rw [IntKind.wrap_u8]; omega
  go_enter Tryz.func152, Tryz.ntmps152
  go_wp2_with fail
  go_loopg [4, 33] 4 (fun x v4 v33 wr => ∃ (k : Nat) (A : Option Addr) (c : Nat) (ns : List Nat), k ≤ 4 ∧ x = 4 - k ∧ v4 = .slice A (2 + 8 * k) c ∧ v33 = .int .i64 (k : Int) ∧ HeadOk [l, t, s, n] k ns ∧ w.grownBy wr none ∧
    wr.heap[w.heap.size + 1 + 1]? = some (.cells #[.int .i64 l, .int .i64 t, .int .i64 s, .int .i64 n] 2 (0, 0)) ∧ (Value.slice A (2 + 8 * k) c).ownBlock ≠ some (w.heap.size + 1 + 1) ∧
    wr.ownsRow (w.heap.size + 1) 5 1 (.slice A (2 + 8 * k) c) (2 + 8 * k) (vals .u8 (e :: oneIf true :: words ns)))
  case atStart =>
    refine ⟨0, some ⟨w.heap.size + 1, 0, none⟩, 2, [], by omega, rfl, rfl, rfl, ⟨rfl, rfl, by simp⟩, grown_alloc (grown_alloc (grown_alloc (World.grownBy.refl w none) _) _) _, blk_newk _ _ (by simp), by simp [Value.ownBlock], ?_⟩
    exact own_in (own_madek _ [.int .u8 (e : Int), .int .u8 1] 5 1 2 rfl (by unfold maxLen; omega) (by simp) (Nat.le_refl _)) _
  case round =>
    obtain ⟨k, A, c, ns, hk, rfl, rfl, rfl, hH, hG, hL, hne, ho⟩ := hrel
    have HH := Lib.hid hH; have HG := Lib.hid hG; have HL := Lib.hid hL; have Hne := Lib.hid hne; have Ho := Lib.hid ho
    clear hH hG hL hne ho
    by_cases hlt : k < 4
    · obtain ⟨v, hv⟩ : ∃ v : Int, ([l, t, s, n] : List Int)[k]? = some v := ⟨_, List.getElem?_eq_getElem hlt⟩
      have hcv : wr.cell? ⟨w.heap.size + 1 + 1, k, none⟩ = some (.int .i64 v) := by
        rw [blk_cell HL.out k]
        have hk4 : k = 0 ∨ k = 1 ∨ k = 2 ∨ k = 3 := by omega
        rcases hk4 with rfl | rfl | rfl | rfl <;> (simp at hv; subst hv; rfl)
      have Hv := Lib.hid hv; clear hv
      have hlen : (e :: oneIf true :: words ns).length = 2 + 8 * k := by
        rw [List.length_cons, List.length_cons, words_len, HH.out.1]; omega
      have Hlen := Lib.hid hlen; clear hlen
      have hws : w.heap.size + 1 + 1 < wr.heap.size := blk_lt HL.out
      by_cases hok : v < 0 ∨ 4611686018427387903 < v
      · have Hok := Lib.hid hok
        go_wp2_with fail
        refine (form_bad v _ hok).mono ?_
        rintro e' w1 ⟨rfl, rfl⟩
        go_wp2_with fail
        go_ret2
        refine ⟨1, [], .inl ⟨rfl, rfl, fun h => ?_⟩, retBE_none ⟨rfl, ext_none HG.out⟩⟩
        have := h.2.2 v (List.mem_of_getElem? Hv.out)
        have := Hok.out
        unfold okN at *
        omega
      · obtain ⟨V, rfl⟩ : ∃ V : Nat, v = (V : Int) := ⟨v.toNat, by omega⟩
        have hV : V ≤ 4611686018427387903 := by omega
        clear hok
        have C := Lib.hid (wireNum2 wr (w.heap.size + 1) A (2 + 8 * k) c _ V Hlen.out Ho.out (by omega) (by omega) (by omega))
        go_wp2_with fail
        refine (form_ok (V : Int) _ (by omega) (by omega)).mono ?_
        rintro e' w1 ⟨rfl, rfl⟩
        go_wp2_with fail
        refine C.out.mono ?_
        rintro e' w1 ⟨A1, c1, rfl, ho1, hg1, hr1⟩
        have Ho1 := Lib.hid ho1; have Hg1 := Lib.hid hg1; have Hr1 := Lib.hid hr1
        clear ho1 hg1 hr1 C
        go_wp2_with fail
        go_roundg (4 - (k + 1))
        case measure => omega
        case rel =>
          have hH := headOk_succ HH.out Hv.out (by omega) (by omega)
          rw [Int.toNat_natCast] at hH
          refine ⟨k + 1, A1, c1, ns ++ [V], by omega, rfl, by rw [show 2 + 8 * (k + 1) = 2 + 8 * k + 8 by omega], by go_num, hH, ?_, ?_, ?_, ?_⟩
          · exact grown_row HG.out Hg1.out (fun q hq => .inr (by have := own_ge Ho.out q hq; omega))
          · exact (Hg1.out.block _ (blk_lt HL.out) (fun e => Hne.out e.symm)).trans HL.out
          · rw [show 2 + 8 * (k + 1) = 2 + 8 * k + 8 by omega]
            intro h
            rcases Hr1.out _ h with h' | h'
            · exact Hne.out h'
            · omega
          · rw [words_snoc, show 2 + 8 * (k + 1) = 2 + 8 * k + 8 by omega]
            exact Ho1.out
    · obtain rfl : k = 4 := by omega
      go_wp2_with fail
      go_ret2
      refine ⟨0, repB e true ns, .inr ⟨rfl, by omega, by omega, ns, HH.out, rfl⟩, ?_⟩
      exact retBE_of (by rw [repB_len, HH.out.1]) (own_base Ho.out (by omega)) (ext_none HG.out)
end

section
open Go.RowKit

/-- many cells are stored -/
theorem setCells_blk {b : Nat} {t : TypeId} : ∀ (ys : List Value) (w : World) (k : Nat) (cs : Array Value), w.heap[b]? = some (.cells cs t (0, 0)) → k + ys.length ≤ cs.size →
    ∃ cs', (w.setCells b k ys).heap[b]? = some (.cells cs' t (0, 0)) ∧ cs'.size = cs.size ∧ (∀ j, j < ys.length → cs'[k + j]? = ys[j]?) ∧ (∀ i, i < k ∨ k + ys.length ≤ i → cs'[i]? = cs[i]?) ∧ GB w (w.setCells b k ys) (· = b)
  | [], w, k, cs, h, _ => ⟨cs, h, rfl, fun j hj => absurd hj (Nat.not_lt_zero j), fun _ _ => rfl, GB.refl w _⟩
  | y :: ys, w, k, cs, h, hk => by
    simp only [List.length_cons] at hk
    obtain ⟨cs', h1, h2, h3, h4, h5⟩ := setCells_blk ys (w.setCell ⟨b, k, none⟩ y) (k + 1) _ (blk_set h k y) (by simpa using (by omega : k + 1 + ys.length ≤ cs.size))
    refine ⟨cs', h1, by simpa using h2, fun j hj => ?_, fun i hi => ?_, ((GB.refl w (· = b)).set b k y (.inl rfl)).trans h5 (fun i e => .inl e)⟩
    · cases j with
      | zero =>
        rw [Nat.add_zero, h4 k (.inl (by omega)), Array.getElem?_setIfInBounds_self_of_lt (by omega)]
        rfl
      | succ j =>
        rw [show k + (j + 1) = k + 1 + j by omega, h3 j (by simp only [List.length_cons] at hj; omega)]
        rfl
    · simp only [List.length_cons] at hi
      rw [h4 i (by omega), Array.getElem?_setIfInBounds_ne (by omega)]
/-- a slice of these values, s cells an element; ob: the block it lies in, if it has room for any -/
def OffS (w : World) (s : Nat) (ob : Option Nat) (v : Value) (n : Nat) (xs : List Value) : Prop :=
  ∃ (ao : Option Addr) (cap : Nat), v = .slice ao n cap ∧ n ≤ cap ∧ cap ≤ maxLen ∧ xs.length = n * s ∧
    ((cap = 0 ∧ ob = none) ∨ ∃ b off cs t, ob = some b ∧ ao = some ⟨b, off, none⟩ ∧ w.heap[b]? = some (.cells cs t (0, 0)) ∧ off + cap * s ≤ cs.size ∧ ∀ j u, xs[j]? = some u → cs[off + j]? = some u)
theorem OffS.gb {w w' : World} {S : Nat → Prop} {s : Nat} {ob : Option Nat} {v : Value} {n : Nat} {xs : List Value} (h : OffS w s ob v n xs) (g : GB w w' S) (hs : ∀ b, ob = some b → ¬ S b) : OffS w' s ob v n xs := by
  obtain ⟨ao, cap, h1, h2, h3, h4, h5⟩ := h
  refine ⟨ao, cap, h1, h2, h3, h4, h5.imp id ?_⟩
  rintro ⟨b, off, cs, t, e1, e2, e3, e4, e5⟩
  exact ⟨b, off, cs, t, e1, e2, g.blk e3 (hs b e1), e4, e5⟩
theorem OffS.ext {w w' : World} {s : Nat} {ob : Option Nat} {v : Value} {n : Nat} {xs : List Value} (h : OffS w s ob v n xs) (x : Ext w w') : OffS w' s ob v n xs := h.gb (GB.of_ext (fun _ => False) x) (fun _ _ => id)
theorem OffS.lt {w : World} {s : Nat} {ob : Option Nat} {v : Value} {n : Nat} {xs : List Value} (h : OffS w s ob v n xs) : ∀ b, ob = some b → b < w.heap.size := by
  obtain ⟨ao, cap, h1, h2, h3, h4, h5⟩ := h
  rcases h5 with ⟨_, e⟩ | ⟨b, off, cs, t, e1, _, e3, _⟩
  · intro b e'; rw [e] at e'; cases e'
  · intro b' e'; rw [e1] at e'; injection e' with e'; rw [← e']; exact blk_lt e3
theorem offS_nil (w : World) (s : Nat) : OffS w s none (.slice none 0 0) 0 [] := ⟨none, 0, rfl, Nat.le_refl _, Nat.zero_le _, by simp, .inl ⟨rfl, rfl⟩⟩
theorem OffS.shape {w : World} {s : Nat} {ob : Option Nat} {v : Value} {n : Nat} {xs : List Value} (h : OffS w s ob v n xs) : ∃ ao cap, v = .slice ao n cap ∧ n ≤ cap ∧ cap ≤ maxLen ∧ Rd w ao xs := by
  obtain ⟨ao, cap, h1, h2, h3, h4, h5⟩ := h
  refine ⟨ao, cap, h1, h2, h3, fun hne => ?_⟩
  rcases h5 with ⟨e0, _⟩ | ⟨b, off, cs, t, e1, e2, e3, e4, e5⟩
  · obtain rfl : n = 0 := by omega
    rw [Nat.zero_mul] at h4
    exact absurd (List.eq_nil_of_length_eq_zero h4) hne
  · exact ⟨b, off, e2, fun j u hu => (blk_cell e3 _).trans (e5 j u hu)⟩
theorem OffS.drop {P : Program} {t e : TypeId} {s : Nat} (ht : P.underlying t = some (.slice e)) (hz : ∀ u : World, (sizeOf e).run P u = .ok s u) {w : World} {ob : Option Nat} {ao : Option Addr} {n cap : Nat} {xs : List Value} (h : OffS w s ob (.slice ao n cap) n xs) (k : Nat) (hk : k ≤ n) {ki : Int} (hki : ki = (k : Int)) :
    ∃ v' ob', (∀ u : World, (Instr.slice t (.slice ao n cap) (some (.int .i64 ki)) none none).run P u = .ok v' u) ∧ OffS w s ob' v' (n - k) (xs.drop (k * s)) ∧ ∀ b, ob' = some b → ob = some b := by
  obtain ⟨ao', cap', h1, h2, h3, h4, h5⟩ := h
  injection h1 with h1 _ h1'
  subst h1 h1'
  subst hki
  have he : P.elem t = e := by simp [Program.elem, ht]
  have hrun : ∀ u : World, (Instr.slice t (.slice ao n cap) (some (.int .i64 (k : Int))) none none).run P u = .ok (.slice (if cap = k then ao else ao.map (·.add (k * s))) (n - k) (cap - k)) u := fun u => by
    rw [run_slice_l (P := P) u t ao n cap (by rw [he]; exact ht) .i64 (k : Int) (by omega) (by omega), he, hz]
    simp only [Result.andThen, sliced, Int.toNat_natCast]
  have hlen : (xs.drop (k * s)).length = (n - k) * s := by rw [List.length_drop, h4, Nat.sub_mul]
  by_cases hck : cap = k
  · refine ⟨_, none, hrun, ⟨_, cap - k, rfl, by omega, by omega, hlen, .inl ⟨by omega, rfl⟩⟩, fun b e => by cases e⟩
  · rcases h5 with ⟨e0, _⟩ | ⟨b, off, cs, tt, e1, e2, e3, e4, e5⟩
    · omega
    · refine ⟨_, some b, hrun, ⟨_, cap - k, rfl, by omega, by omega, hlen, .inr ⟨b, off + k * s, cs, tt, rfl, by rw [if_neg hck, e2]; simp [Addr.add_lit], e3, ?_, fun j u hu => ?_⟩⟩, fun b' e => by rw [e1]; exact e⟩
      · have : k * s + (cap - k) * s = cap * s := by rw [← Nat.add_mul]; congr 1; omega
        omega
      · rw [Nat.add_assoc]
        exact e5 (k * s + j) u (by rw [← hu, List.getElem?_drop])
/-- one element more -/
theorem run_offS {P : Program} (w : World) (t ty e : TypeId) (i : TypeInfo) (z : Value) (ht : P.underlying t = some (.slice e)) (hi : P.info? e = some i) (hz : i.zero = some z) (hzs : z.cells.size = i.size) (hb : i.bytes ≤ 1000)
    {ob : Option Nat} {v : Value} {n : Nat} {xs : List Value} (h : OffS w i.size ob v n xs) (hn : n ≤ 1000000) (a : Addr) (c : Nat) (news : List Value) (hl : news.length = i.size) (hx : ∀ j u, news[j]? = some u → w.cell? (a.add j) = some u) (hx1 : ∀ u ∈ news, u.oneCell' = true) :
    ∃ v' w' ob', (Builtin.append_ #[t, t] ty #[v, .slice (some a) 1 c]).run P w = .ok v' w' ∧ OffS w' i.size ob' v' (n + 1) (xs ++ news) ∧ GB w w' (fun b => ob = some b) ∧ (ob' = ob ∨ ob' = some w.heap.size) := by
  obtain ⟨ao, cap, rfl, h2, h3, h4, h5⟩ := h
  have hsrc : Src P i.size t (.slice (some a) 1 c) 1 news w := Src.ofSlice (w := w) ht a 1 c news (by rw [Nat.one_mul]; exact hl) hx hx1
  have hnm : (n + 1) * i.size = n * i.size + i.size := by rw [Nat.add_mul, Nat.one_mul]
  by_cases hroom : n + 1 ≤ cap
  · rcases h5 with ⟨e0, _⟩ | ⟨b, off, cs, tt, e1, e2, e3, e4, e5⟩
    · omega
    · subst e2
      have hcm : (n + 1) * i.size ≤ cap * i.size := Nat.mul_le_mul_right _ hroom
      have hrun := run_append_room_src (P := P) w t t ty e i ht hi b off n cap (.slice (some a) 1 c) 1 news hsrc hroom (fun j hj => by
        rw [blk_cell e3, Array.getElem?_eq_getElem (by omega)]
        rfl) (fun j hj => blk_frozen e3 _)
      obtain ⟨cs', k1, k2, k3, k4, k5⟩ := setCells_blk (b := b) news w (off + n * i.size) cs e3 (by omega)
      refine ⟨_, _, ob, hrun, ?_, k5.more (fun i _ e => e ▸ e1), .inl rfl⟩
      refine ⟨_, cap, rfl, hroom, h3, by rw [List.length_append, h4, hl, hnm], .inr ⟨b, off, cs', tt, e1, rfl, k1, by omega, fun j u hu => ?_⟩⟩
      by_cases hj : j < n * i.size
      · rw [List.getElem?_append_left (by omega)] at hu
        rw [k4 _ (.inl (by omega))]
        exact e5 j u hu
      · rw [List.getElem?_append_right (by omega), h4] at hu
        have hjl := (List.getElem?_eq_some_iff.1 hu).1
        have := k3 (j - n * i.size) hjl
        rw [show off + n * i.size + (j - n * i.size) = off + j by omega] at this
        rw [this]
        exact hu
  · have hold : (Builtin.firstCells i.size n (.slice ao n cap)).run P w.drew = .ok xs.toArray w.drew := by
      rcases h5 with ⟨e0, _⟩ | ⟨b, off, cs, tt, e1, e2, e3, e4, e5⟩
      · obtain rfl : n = 0 := by omega
        rw [Nat.zero_mul] at h4
        obtain rfl : xs = [] := List.eq_nil_of_length_eq_zero h4
        cases ao with
        | none => exact run_firstCells_none w.drew i.size 0 0 cap
        | some a' => exact run_firstCells_some w.drew i.size 0 a' 0 cap [] (by simp) (by intro _ _ h'; simp at h')
      · subst e2
        refine run_firstCells_some w.drew i.size n ⟨b, off, none⟩ n cap xs h4 (fun j u hu => ?_)
        rw [Addr.add_lit]
        exact (blk_cell e3 _).trans (e5 j u hu)
    have hg : cap < n + 1 := by omega
    have hrun := run_append_grow_src (P := P) w t t ty e i z ht hi hz ao n cap xs hold (.slice (some a) 1 c) 1 news hsrc hg (by omega) (growslice_fits hg (Nat.le_trans (Nat.mul_le_mul (show n + 1 ≤ 1000001 by omega) hb) (by decide)))
    have hge := grownCap_ge w (n + 1) cap e
    have hcm := grownCap_le_maxLen w (n + 1) cap e (by unfold maxLen; omega)
    obtain ⟨GC, hGC⟩ : ∃ GC, grownCap w (n + 1) cap e = GC := ⟨_, rfl⟩
    rw [hGC] at hrun hge hcm
    refine ⟨_, _, some w.heap.size, hrun, ⟨_, _, rfl, hge, hcm, by rw [List.length_append, h4, hl, hnm], .inr ⟨w.heap.size, 0, _, e, rfl, rfl, blk_new w.drew _, ?_, fun j u hu => ?_⟩⟩, ((GB.refl w _).drew).alloc _, .inr rfl⟩
    · rw [Array.size_append, size_zeroCells, hzs, List.size_toArray, List.length_append, h4, hl]
      have : (GC - (n + 1)) * i.size + (n + 1) * i.size = GC * i.size := by rw [← Nat.add_mul]; congr 1; omega
      omega
    · rw [Nat.zero_add, Array.getElem?_append_left (by have := (List.getElem?_eq_some_iff.1 hu).1; simpa using this), List.getElem?_toArray]
      exact hu
end

section
open Go.RowKit

theorem tk_info : (Tryz.prog.info? 120).map (fun i => (i.zero, i.size, i.bytes)) = some (some (.agg #[.int .i64 0, .slice none 0 0, .int .i64 0]), 3, 40) := by kernel_rfl
theorem tk_size : ∀ u : World, (sizeOf 120).run Tryz.prog u = .ok 3 u := fun _ => by kernel_rfl
theorem tk_zero : ∀ w : World, (zeroValue 120).run Tryz.prog w = .ok (.agg #[.int .i64 0, .slice none 0 0, .int .i64 0]) w := fun _ => by kernel_rfl
theorem tk_zcells (n : Nat) : ((Builtin.zeroCells (Value.cells (.agg #[.int .i64 0, .slice none 0 0, .int .i64 0])) n).toList).length = n * 3 ∧ ∀ v ∈ (Builtin.zeroCells (Value.cells (.agg #[.int .i64 0, .slice none 0 0, .int .i64 0])) n).toList, v.oneCell' = true := by
  refine ⟨by rw [Array.length_toList, size_zeroCells]; rfl, fun v hv => ?_⟩
  simp only [Builtin.zeroCells, Array.toList_map, List.mem_map] at hv
  obtain ⟨i, _, rfl⟩ := hv
  have hi : i % 3 < 3 := Nat.mod_lt _ (by omega)
  show ((.agg #[.int .i64 0, .slice none 0 0, .int .i64 0] : Value).cells[i % 3]!).oneCell' = true
  have h9 : ∀ j, j < 3 → ((.agg #[.int .i64 0, .slice none 0 0, .int .i64 0] : Value).cells[j]!).oneCell' = true := by decide
  exact h9 _ hi
def tk_DelR (base : Nat) (A : Option Addr) (n c : Nat) (xs : List Value) (k : Nat) (w : World) (e : Ending) (w' : World) : Prop :=
  e = .returned (.slice A (n - 1) c) ∧ w'.ownsRow base 120 3 (.slice A (n - 1) c) (n - 1) (delF 3 xs k) ∧ w.grownBy w' (Value.slice A n c).ownBlock
set_option maxHeartbeats 4000000 in
set_option maxRecDepth 100000 in
theorem tk_delete (w : World) (base : Nat) (A : Option Addr) (n c k : Nat) (xs : List Value) (hx1 : ∀ u ∈ xs, u.oneCell' = true) (hn : n ≤ 100000) (hk : k < n) (ho : w.ownsRow base 120 3 (.slice A n c) n xs) :
    Calls Tryz.prog 156 #[.slice A n c, .int .i64 (k : Int), .int .i64 ((k : Int) + 1)] w (tk_DelR base A n c xs k w) := by
  have hl : xs.length = n * 3 := ho.1
  have hnc := own_cap ho
  obtain ⟨g, rfl, hg1, hg2⟩ := own_some_s ho (by omega)
  have hcm : c ≤ 9223372036854775807 := by
    rcases ho.2 with ⟨h3, h4⟩ | ⟨g, cap, cur, h3, _, _, _, h4, _⟩
    · omega
    · injection h3 with _ _ h3
      unfold maxLen at h4
      omega
  obtain ⟨i0, hi0, hz0, hz1, hz2⟩ := info_parts tk_info
  obtain ⟨news, hnews⟩ : ∃ news, xs.drop ((k + 1) * 3) = news := ⟨_, rfl⟩
  have hlen : news.length = (n - (k + 1)) * 3 := by rw [← hnews, List.length_drop, hl]; omega
  have hcell : ∀ j, j < n * 3 → w.cell? ⟨g, j, none⟩ = xs[j]? := fun j hj => ho.cellAt j hj
  obtain ⟨B, hA, hsrc⟩ : ∃ B : Addr, (if c = k + 1 then (some ⟨g, 0, none⟩ : Option Addr) else some ⟨g, (k + 1) * 3, none⟩) = some B ∧ Hid (∀ t u, news[t]? = some u → w.drew.cell? (B.add t) = some u) := by
    by_cases h : c = k + 1
    · refine ⟨⟨g, 0, none⟩, by simp [h], fun t u hu => ?_⟩
      have h0 : news.length = 0 := by rw [hlen]; omega
      rw [List.length_eq_zero_iff.1 h0] at hu
      simp at hu
    · refine ⟨⟨g, (k + 1) * 3, none⟩, by simp [h], fun t u hu => ?_⟩
      have ht : t < (n - (k + 1)) * 3 := by rw [← hlen]; exact (List.getElem?_eq_some_iff.1 hu).1
      rw [Addr.add_lit]
      refine (hcell ((k + 1) * 3 + t) (by omega)).trans ?_
      rw [← hu, ← hnews, List.getElem?_drop]
  have s1 : Hid (news.length = (n - (k + 1)) * 3) := hlen
  have s2 : Hid (∀ u ∈ news, u.oneCell' = true) := fun u hu => hx1 u (by rw [← hnews] at hu; exact List.mem_of_mem_drop hu)
  have s3 : Hid (∀ t, t < news.length → (w.drew.cell? ⟨g, 0 + k * 3 + t, none⟩).isSome = true ∧ w.drew.frozen? ⟨g, 0 + k * 3 + t, none⟩ = false) := fun t ht => by
    rw [hlen] at ht
    rw [Nat.zero_add]
    refine ⟨?_, ho.frozenAt _⟩
    show (w.cell? _).isSome = true
    rw [hcell _ (by omega), List.getElem?_eq_getElem (by omega)]; rfl
  obtain ⟨W1, hW1⟩ : ∃ W1, W1 = w.drew.setCells g (0 + k * 3) news := ⟨_, rfl⟩
  have hp1 := own_put_s news w.drew _ (0 + k * 3) ho.drew
  rw [← hW1] at hp1
  obtain ⟨hm1, hG1⟩ := hp1
  rw [Nat.zero_add] at hm1
  have hput1 : putAt xs (k * 3) news = xs.take (k * 3) ++ (news ++ xs.drop (k * 3 + news.length)) := putAt_eq _ _ _ (by rw [hl, hlen]; omega)
  have hlen1 : (putAt xs (k * 3) news).length = n * 3 := by rw [hput1, List.length_append, List.length_append, List.length_take, List.length_drop, hl, hlen]; omega
  obtain ⟨ZS, hZS⟩ : ∃ ZS, (Builtin.zeroCells (Value.cells (.agg #[.int .i64 0, .slice none 0 0, .int .i64 0])) (n - (k + (n - (k + 1))))).toList = ZS := ⟨_, rfl⟩
  have hZ := tk_zcells (n - (k + (n - (k + 1))))
  rw [hZS] at hZ
  have hcl : ∀ ty, (Builtin.clear_ #[117] ty #[.slice (some ⟨g, (k + (n - (k + 1))) * 3, none⟩) (n - (k + (n - (k + 1)))) (c - (k + (n - (k + 1))))]).run Tryz.prog W1 = .ok (.tuple #[]) (W1.setCells g ((k + (n - (k + 1))) * 3) ZS) :=
    fun ty => run_clear_cells_s W1 _ _ ty _ ZS Tryz.underlying117 tk_zero g ((k + (n - (k + 1))) * 3) _ _ (by omega) hZS hZ.2 (fun t ht => by
      rw [hZ.1] at ht
      rw [hm1.cellAt _ (by omega), List.getElem?_eq_getElem (by rw [hlen1]; omega)]; rfl) (fun t _ => hm1.frozenAt _)
  obtain ⟨W2, hW2⟩ : ∃ W2, W1.setCells g ((k + (n - (k + 1))) * 3) ZS = W2 := ⟨_, rfl⟩
  have hp2 := own_put_s ZS W1 _ ((k + (n - (k + 1))) * 3) hm1
  rw [hW2] at hp2 hcl
  have hfin : (putAt (putAt xs (k * 3) news) ((k + (n - (k + 1))) * 3) ZS).take ((n - 1) * 3) = delF 3 xs k := by
    rw [putAt_eq _ _ _ (by rw [hlen1, hZ.1]; omega), show k + (n - (k + 1)) = n - 1 by omega]
    rw [List.take_left' (by rw [List.length_take, hlen1]; omega), hput1, ← List.append_assoc]
    rw [List.take_left' (by rw [List.length_append, List.length_take, hl, hlen]; omega), ← hnews]
    unfold delF
    rw [Nat.add_mul, Nat.one_mul]
  have Fin := Lib.hid (show tk_DelR base (some ⟨g, 0, none⟩) n c xs k w (.returned (.slice (some ⟨g, 0, none⟩) (n - 1) c)) W2 from ⟨rfl, by rw [← hfin]; exact own_sub_s hp2.1 (by omega), World.grown_trans (grown_undrew hG1) hp2.2⟩)
  have hW : Hid (W1 = w.drew.setCells g (0 + k * 3) news) := hW1
  have hic : k ≤ c := by omega
  have hjc : k + 1 ≤ c := by omega
  have hkn : k + 1 ≤ n := by omega
  have hw1 : IntKind.i64.wrap ((k : Int) + 1) = (k : Int) + 1 := by rw [IntKind.wrap_i64]; omega
  have hz3 : ¬ ((k : Int) = (k : Int) + 1) := by omega
  have hb1 : (0 : Int) ≤ (k : Int) + 1 := by omega
  have htn : ((k : Int) + 1).toNat = k + 1 := by omega
  have hb3 : (k : Int) + 1 ≤ (n : Int) := by omega
  have hb4 : (k : Int) ≤ (k : Int) + 1 := by omega
  have hb6 : (k : Int) + 1 ≤ (c : Int) := by omega
  have mixed : Tryz.prog.follows Departure.mixedOrders = true := by kernel_rfl
  have hsz := tk_size
  clear hW1 hp2 hfin hm1 hG1 hput1 hlen1 hcell hlen hnews ho hl hW2 hg1 hg2 hx1 hZ hZS
  go_enter Tryz.func156, Tryz.ntmps156
  go_wp2_with fail
  go_region_law_o (refine step_append_room rfl (.tmp 22) (.tmp 25) 117 rfl 120 i0 3 Tryz.underlying117 hi0 hz1 g 0 k c (by simp [Act.eval, Act.put]) B (n - (k + 1)) (c - (k + 1)) news (by simp [Act.eval, Act.put]) s1.out hsrc.out s2.out (by omega) s3.out ?_; rw [← hW.out])
  go_wp2
  go_ret
  have e : k + (n - (k + 1)) = n - 1 := by omega
  first | exact Fin.out | (rw [e]; exact Fin.out)
end
end Go.Proofs.YtloidkmphigbdaaGreat
