/- The frame statements' own first call answers true. -/
import Derived.Test.YthkdjjfnmlemdaaFrS
import Derived.Test.YthkdjjfnmlemdaaFrame
namespace Go.Proofs.Ythkdjjfnmlemdaa
open Go.RowKit

theorem IsRdr.ext {w w' : World} {r : Nat} {S : Nat → Prop} {ws : List Nat} {cl : Bool} (h : IsRdr w r ws cl S) (hx : Ext w w') : IsRdr w' r ws cl S := by
  obtain ⟨A, n, c, h1, h2, h3, h4, h6⟩ := h
  exact ⟨A, n, c, blk_ext h1 hx, h2, h3, h4.ext hx, h6⟩
theorem IsRdr.more {w : World} {r : Nat} {S S' : Nat → Prop} {ws : List Nat} {cl : Bool} (h : IsRdr w r ws cl S) (hS : ∀ b, S b → S' b) : IsRdr w r ws cl S' := by
  obtain ⟨A, n, c, h1, h2, h3, h4, h6⟩ := h
  exact ⟨A, n, c, h1, h2, h3, h4, fun a ha => hS _ (h6 a ha)⟩
theorem IsRdr.grown {w w' : World} {r : Nat} {S : Nat → Prop} {ws : List Nat} {cl : Bool} (h : IsRdr w r ws cl S) {row : Option Nat} (hg : w.grownBy w' row) (hr : row ≠ some r) (hS : ∀ b, S b → row ≠ some b) : IsRdr w' r ws cl S := by
  obtain ⟨A, n, c, h1, h2, h3, h4, h6⟩ := h
  exact ⟨A, n, c, (hg.block r (blk_lt h1) (fun e => hr e.symm)).trans h1, h2, h3, h4.grown hg (fun a ha e => hS _ (h6 a ha) e), h6⟩
theorem feedR_ok {al : List Nat} {w : World} {r : Nat} {e : Ending} {w' : World} (h : FeedR al w r e w') {pss : List (List Nat)} {rest : List Nat} (hp : parse al = (pss, rest, false)) :
    ∃ S A n c, e = .returned (.tuple #[.slice A n c, .int .i64 0]) ∧ pss.length = n ∧ w.heap.size ≤ S ∧ PL w' S A n c pss ∧ IsRdr w' r rest false (fun b => w.heap.size ≤ b ∧ b < S) ∧ w.grownBy w' (some r) := by
  obtain ⟨S, A, n, c, h1, h2, h3, _, h5⟩ := h
  rw [hp] at h2 h5
  obtain ⟨h6, h7⟩ := h5 rfl
  exact ⟨S, A, n, c, h6, h2.1, h1.1, h2, h7, h3⟩

set_option maxHeartbeats 2000000 in
theorem frAwake (w : World) : Calls Try.prog 15 #[] w (RetTrue w) := by
  go_enter Try.func15, Try.ntmps15
  go_wp2_with fail
  refine (frEncode_ok _ _ 1 1 [97] (by omega) (by omega) rfl (rd_new _ _ _)).mono ?_
  rintro e w1 ⟨A1, c1, rfl, hown1, hy1⟩
  have hx1 : Ext w w1 := ((Ext.refl w).alloc _).trans hy1
  have hr1 := Lib.hid (Rd.of_own hown1)
  clear hown1 hy1
  go_wp2_with fail
  refine (frNew w1).mono ?_
  rintro e w2 ⟨rfl, hR2, hy2, hs2⟩
  have hx2 := hx1.trans hy2
  have hr2 := Lib.hid (hr1.out.ext hy2)
  have HR2 := Lib.hid hR2; clear hR2 hr1
  go_wp2_with fail
  refine (toE_q (same_any A1 _ 5 c1 5 5 [0, 0, 0, 1, 97] [0, 0, 0, 1, 97] _ rfl rfl (by omega) (by decide) (by decide) (hr2.out.alloc _) (rd_new _ _ _))).mono ?_
  rintro e w3 ⟨rfl, hy3⟩
  have hy3 : Ext w2 w3 := ((Ext.refl w2).alloc _).trans hy3
  have hx3 := hx2.trans hy3
  have HR3 := Lib.hid (HR2.out.ext hy3)
  have hws : w.heap.size ≤ w1.heap.size := hx1.size
  have hs3 : w2.heap.size ≤ w3.heap.size := hy3.size
  rw [show same [0, 0, 0, 1, 97] [0, 0, 0, 1, 97] = true by decide]
  clear hr2 HR2
  go_wp2_with fail
  refine (feed_open _ w1.heap.size _ [] _ 2 2 [0, 0] (HR3.out.ext ((Ext.refl w3).alloc _)) (by simp) rfl (by decide) (rd_new _ _ _) (by simp)).mono ?_
  intro e w4 hF
  obtain ⟨S4, A4, n4, c4, rfl, hn4, hS4, hP4, hR4, hg4⟩ := feedR_ok hF (pss := []) (rest := [0, 0]) (by decide +kernel)
  obtain rfl : n4 = 0 := hn4.symm
  clear hF hn4 hP4
  have hx4 : Ext w w4 := (hx3.alloc _).grown hg4 (fun k hk => by injection hk with hk; omega)
  have HR4 := Lib.hid hR4; clear hR4 hg4
  go_wp2_with fail
  refine (feed_open _ w1.heap.size _ [0, 0] _ 4 4 [0, 1, 97, 0] (HR4.out.ext ((Ext.refl w4).alloc _)) (by decide) rfl (by decide) (rd_new _ _ _) (by simp)).mono ?_
  intro e w5 hF
  obtain ⟨S5, A5, n5, c5, rfl, hn5, hS5, hP5, hR5, hg5⟩ := feedR_ok hF (pss := [[97]]) (rest := [0]) (by decide +kernel)
  obtain rfl : n5 = 1 := hn5.symm
  clear hF hn5
  have hx5 : Ext w w5 := (hx4.alloc _).grown hg5 (fun k hk => by injection hk with hk; omega)
  have HR5 := Lib.hid hR5; have HP5 := Lib.hid hP5; clear hR5 hg5 hP5 HR4 HR3
  go_wp2_with fail
  have hB : RdBB ((w5.alloc (.cells #[.int .u8 97] 5)).alloc (.cells #[.slice (some ⟨w5.heap.size, 0, none⟩) 1 1] 28)) (some ⟨w5.heap.size + 1, 0, none⟩) [[97]] := by
    refine ⟨[.slice (some ⟨w5.heap.size, 0, none⟩) 1 1], rfl, rd_mark2 w5 _ _ _ _, ?_⟩
    intro i ps hi
    obtain ⟨rfl, rfl⟩ : i = 0 ∧ ps = [97] := by
      rcases i with _ | i
      · simp at hi; exact ⟨rfl, hi.symm⟩
      · simp at hi
    exact ⟨_, 1, rfl, by decide, (rd_new w5 [.int .u8 97] _).alloc _⟩
  refine (toE_q (refSame_true _ A5 _ 1 c5 1 [[97]] rfl (by omega) (by decide) (HP5.out.rd.ext (((Ext.refl w5).alloc _).alloc _)) hB)).mono ?_
  rintro e w6 ⟨rfl, hy6⟩
  have hy6 : Ext w5 w6 := (((Ext.refl w5).alloc _).alloc _).trans hy6
  have hx6 := hx5.trans hy6
  have HR6 := Lib.hid (HR5.out.ext hy6)
  clear hB HP5 HR5
  go_wp2_with fail
  refine (waiting_any _ _ _ _ _ HR6.out).mono ?_
  rintro e w7 ⟨rfl, rfl⟩
  go_wp2_with fail
  go_ret
  exact retTrue hx6
end Go.Proofs.Ythkdjjfnmlemdaa
