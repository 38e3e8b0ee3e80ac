/- the statements' awake. -/
import Derived.Test.YtemnhnhpaaoccaaPermH
namespace Go.Proofs.Ytemnhnhpaaoccaa
open Go.RowKit

theorem rd_takeI {w : World} {A : Option Addr} {xs ys : List Int} (h : Rd w A (ivals (xs ++ ys))) : Rd w A (ivals xs) := by
  intro hne
  rw [ivals_append] at h
  obtain ⟨b, off, hA, hc⟩ := h (by intro e; simp at e; exact hne e.1)
  refine ⟨b, off, hA, fun j u hu => hc j u ?_⟩
  have hj := (List.getElem?_eq_some_iff.1 hu).1
  rw [List.getElem?_append_left hj]
  exact hu
theorem form5 : Form 2 [5] := ⟨by decide, by decide, by decide, good_of (by simp) (by intro z hz; simp at hz; subst hz; decide)⟩
theorem form35 : Form 2 [3, 5] := ⟨by decide, by decide, by decide, good_of (by simp) (by intro z hz; simp at hz; rcases hz with rfl | rfl <;> decide)⟩
theorem at5 : At [5] 3 0 := ⟨by decide, fun j hj => by omega, fun j _ hj => by have : j = 0 := (by simpa using hj); subst this; decide⟩
theorem at35 : At [3, 5] 5 1 := ⟨by decide, fun j hj => by have : j = 0 := (by omega); subst this; decide, fun j h1 hj => by have : j = 1 := (by simp at hj; omega); subst this; decide⟩
set_option maxHeartbeats 4000000 in
set_option maxRecDepth 100000 in
theorem permAwake (w : World) : Calls Try.prog 7 #[] w (RetE (.bool true) w) := by
  go_enter Try.func7, Try.ntmps7
  go_wp2_with fail
  refine (of_any _ 2 _ 1 1 [5] rfl (by omega) (rd_new w [.int .i64 5] _)).mono ?_
  rintro e w1 ⟨A1, c1, rfl, ho1, hy1⟩
  have hx1 : Ext w w1 := ((Ext.refl w).alloc _).trans hy1
  have R1 := Lib.hid (rd_takeI (xs := [5]) (Rd.of_own ho1))
  clear ho1 hy1
  go_wp2_with fail
  refine (take_ok _ 2 3 A1 1 c1 0 [5] rfl (R1.out.alloc _) (by decide) form5 at5 (by decide) (by decide)).mono ?_
  rintro e w2 ⟨A2, c2, rfl, ho2, hy2⟩
  have hx2 : Ext w w2 := (hx1.alloc _).trans hy2
  have R2 := Lib.hid (show Rd w2 A2 (ivals [3, 5]) from Rd.of_own ho2)
  clear ho2 hy2
  obtain ⟨q2, hq2⟩ : ∃ q2, w2.heap.size = q2 := ⟨_, rfl⟩
  go_wp2_with fail
  refine (take_err _ 2 9 A2 2 c2 [3, 5] 9 rfl (by omega) (R2.out.alloc _) (by decide) (.inr ⟨form35, .inr ⟨by decide, by decide, rfl⟩⟩)).mono ?_
  rintro e w3 ⟨A3, c3, rfl, _, hy3⟩
  have K3 := Lib.hid (blk_ext (blk_newk w2 (.cells #[.int .i64 2, .slice A2 2 c2] 26 (0, 0)) hq2) hy3)
  have hx23 : Ext w2 w3 := ((Ext.refl w2).alloc _).trans hy3
  have hx3 := hx2.trans hx23
  clear hy3
  have k0 := cell_past (blk_cell K3.out 0); have k1 := cell_past (blk_cell K3.out 1)
  go_wp2_with fail
  refine (give_ok _ 2 5 A2 2 c2 1 [3, 5] rfl ((R2.out.ext hx23).alloc _) form35 at35 (by decide)).mono ?_
  rintro e w4 ⟨A4, c4, rfl, ho4, hy4⟩
  have R4 := Lib.hid (show Rd w4 A4 (ivals [3]) from Rd.of_own ho4)
  have hy34 : Ext w3 w4 := ((Ext.refl w3).alloc _).trans hy4
  have K4 := Lib.hid (blk_ext K3.out hy34)
  have R24 := Lib.hid (R2.out.ext (hx23.trans hy34))
  have hx4 := hx3.trans hy34
  clear hy4 ho4 k0 k1 K3 hq2
  obtain ⟨q4, hq4⟩ : ∃ q4, w4.heap.size = q4 := ⟨_, rfl⟩
  have k0 := cell_past (blk_cell K4.out 0); have k1 := cell_past (blk_cell K4.out 1)
  go_wp2_with fail
  refine (permSame_any _ 2 2 A2 _ 2 c2 2 2 [3, 5] [3, 5] rfl rfl (by omega) ((R24.out.alloc _).alloc _) (rd_newk _ [.int .i64 3, .int .i64 5] _ (by simp [hq4]))).mono ?_
  rintro e w5 ⟨rfl, hy5⟩
  rw [show decide ((2 : Int) = 2 ∧ ([3, 5] : List Int) = [3, 5]) = true by simp]
  have KC := Lib.hid (blk_ext (blk_past (blk_newk w4 (.cells #[.int .i64 2, .slice A4 1 c4] 26 (0, 0)) hq4) _) hy5)
  have hx45 : Ext w4 w5 := (((Ext.refl w4).alloc _).alloc _).trans hy5
  have R45 := Lib.hid (R4.out.ext hx45)
  have m0 := blk_cell KC.out 0; have m1 := blk_cell KC.out 1
  clear hy5 k0 k1
  go_wp2_with fail
  refine (permSame_any _ 2 2 A4 _ 1 c4 1 1 [3] [3] rfl rfl (by omega) (R45.out.alloc _) (rd_newk _ [.int .i64 3] _ rfl)).mono ?_
  rintro e w6 ⟨rfl, hy6⟩
  rw [show decide ((2 : Int) = 2 ∧ ([3] : List Int) = [3]) = true by simp]
  have hx6 := (hx4.trans hx45).trans (((Ext.refl w5).alloc _).trans hy6)
  clear hy6
  go_wp2_with fail
  go_ret
  exact ⟨rfl, hx6⟩
end Go.Proofs.Ytemnhnhpaaoccaa
