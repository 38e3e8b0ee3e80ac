/- the statements' of and same. -/
import Derived.Test.YtemnhnhpaaoccaaPermG
import Derived.BigRegion
namespace Go.Proofs.Ytemnhnhpaaoccaa
open Go.RowKit

/-- a semaphore over a list with marked room behind it, and the whole list -/
def RetOf (p : Int) (n : Nat) (xs : List Int) (w : World) (e : Ending) (w' : World) : Prop :=
  ∃ A c, e = .returned (.tuple #[semaV p A n c, .slice A (n + 2) c]) ∧ w'.ownsRow w.heap.size 2 1 (.slice A (n + 2) c) (n + 2) (ivals (xs ++ [77, 78])) ∧ Ext w w'
set_option maxHeartbeats 4000000 in
set_option maxRecDepth 100000 in
theorem of_any (w : World) (p : Int) (A : Option Addr) (n c : Nat) (xs : List Int) (hl : xs.length = n) (hn : n ≤ 17592186044400) (hr : Rd w A (ivals xs)) :
    Calls Try.prog 8 #[semaV p A n c] w (RetOf p n xs w) := by
  have Hl := Lib.hid hl
  obtain ⟨W, hW⟩ : ∃ W, (w.alloc (.cells #[.int .i64 p, .slice A n c] 24 (0, 0))).alloc (.cells #[.int .i64 0, .slice none 0 0] 26 (0, 0)) = W := ⟨_, rfl⟩
  have hxW : Ext w W := by rw [← hW]; exact ((Ext.refl w).alloc _).alloc _
  have KB := Lib.hid (show W.heap[w.heap.size]? = some (.cells #[.int .i64 p, .slice A n c] 24 (0, 0)) by rw [← hW]; exact blk_past (blk_new w _) _)
  have KT := Lib.hid (show W.heap[w.heap.size + 1]? = some (.cells #[.int .i64 0, .slice none 0 0] 26 (0, 0)) by rw [← hW]; exact blk_newk _ _ (by simp))
  have hsW : w.heap.size + 2 = W.heap.size := by rw [← hW]; simp
  have HrW := Lib.hid (hr.ext hxW)
  have bb : ∀ o : Obj, (W.alloc o).cell? ⟨w.heap.size, 1, none⟩ = some (.slice A n c) := fun o => cell_past (blk_cell KB.out 1) o
  clear hl hr
  go_enter Try.func8, Try.ntmps8
  go_upto_region 1 with fail
  try rw [hW]
  clear hW
  go_wp2_with (first
    | (at_builtin; refine app_i64 _ rfl (.tmp 5) (.tmp 7) rfl W.heap.size rfl (own0I W) rfl Hl.out (HrW.out.alloc _) (by omega) (by simp) ?_; intro A1 c1 w1 hown1 hgrow1 _; have hx1 : Ext W w1 := ((Ext.refl W).alloc _).grown hgrow1 (own_ge (own0I W)); simp only [Nat.zero_add, List.nil_append] at hown1)
    | (at_builtin; refine app_i64 _ rfl (.tmp 8) (.tmp 9) rfl W.heap.size rfl (hown1.alloc _) rfl (m := 2) (news := [77, 78]) rfl (rd_new _ _ _) (by omega) (by have := hx1.size; rw [World.size_alloc]; omega) ?_; intro A2 c2 w2 hown2 hgrow2 _; have hx2 : Ext W w2 := (hx1.alloc _).grown hgrow2 (own_ge hown1); have hc2 := own_cap hown2)
    | fail)
  obtain ⟨g, rfl, hg1, hg2⟩ := own_some hown2 (by omega)
  have KB2 := Lib.hid (blk_ext KB.out hx2); have KT2 := Lib.hid (blk_ext KT.out hx2)
  have Hown := Lib.hid (own_base (base' := w.heap.size) hown2 (by omega))
  have Ho := Lib.hid (own_base (base' := w.heap.size + 2) hown2 (by omega))
  have e0 : w2.drew.cell? ⟨w.heap.size, 0, none⟩ = some (.int .i64 p) := blk_cell KB2.out 0
  have e1 : w2.drew.cell? ⟨w.heap.size, 1, none⟩ = some (.slice A n c) := blk_cell KB2.out 1
  have t0 : w2.drew.cell? ⟨w.heap.size + 1, 0, none⟩ = some (.int .i64 0) := blk_cell KT2.out 0
  have t1 : w2.drew.cell? ⟨w.heap.size + 1, 1, none⟩ = some (.slice none 0 0) := blk_cell KT2.out 1
  have f0 : w2.drew.frozen? ⟨w.heap.size + 1, 0, none⟩ = false := blk_frozen KT2.out 0
  have f1 : w2.drew.frozen? ⟨w.heap.size + 1, 1, none⟩ = false := blk_frozen KT2.out 1
  have t0' : w2.cell? ⟨w.heap.size + 1, 0, none⟩ = some (.int .i64 0) := blk_cell KT2.out 0
  have t1' : w2.cell? ⟨w.heap.size + 1, 1, none⟩ = some (.slice none 0 0) := blk_cell KT2.out 1
  have f0' : w2.frozen? ⟨w.heap.size + 1, 0, none⟩ = false := blk_frozen KT2.out 0
  have f1' : w2.frozen? ⟨w.heap.size + 1, 1, none⟩ = false := blk_frozen KT2.out 1
  have hnc : n ≤ c2 := by omega
  have hnc' : (n : Int) ≤ (c2 : Int) := by omega
  have hxw := hxW.trans hx2
  have HX := Lib.hid hxw
  clear hown1 hown2 hgrow1 hgrow2 hx1 hx2 hg1 hg2 hxw hc2 bb
  go_region
  all_goals
    go_wp2_with fail
    refine bodyPost_ret (ret_sem rfl rfl (row2 (show w2.drew.heap[w.heap.size + 1]? = _ from KT2.out) _ _)) rfl ?_
    exact ⟨_, c2, rfl, own_base (own_row2 (show w2.drew.ownsRow (w.heap.size + 2) 2 1 _ _ _ from Ho.out) (by omega) _ _) (by omega), ext_row2 (HX.out.drew) (by omega) _ _⟩
set_option maxHeartbeats 2000000 in
theorem permSame_any (w : World) (p p' : Int) (A B : Option Addr) (n c m d : Nat) (xs ys : List Int) (hl : xs.length = n) (hl' : ys.length = m) (hn : n ≤ 17592186044416) (hr : Rd w A (ivals xs)) (hr' : Rd w B (ivals ys)) :
    Calls Try.prog 11 #[semaV p A n c, semaV p' B m d] w (RetE (.bool (decide (p = p' ∧ xs = ys))) w) := by
  have C := Lib.hid (fun o o' => sameI_any A B n c m d xs ys ((w.alloc o).alloc o') hl hl' (by omega) ((hr.alloc o).alloc o') ((hr'.alloc o).alloc o'))
  clear hl hl' hr hr'
  by_cases hp : p = p'
  · subst hp
    go_enter Try.func11, Try.ntmps11
    go_wp2_with fail
    refine (toE_q (C.out _ _)).mono ?_
    rintro e w1 ⟨rfl, hy⟩
    by_cases hs : xs = ys
    · rw [show same xs ys = true from decide_eq_true hs]
      go_wp2_with fail
      go_ret
      exact ⟨ret_bool (by simp [hs]), (((Ext.refl w).alloc _).alloc _).trans hy⟩
    · rw [show same xs ys = false from decide_eq_false hs]
      go_wp2_with fail
      go_ret
      exact ⟨ret_bool (by simp [hs]), (((Ext.refl w).alloc _).alloc _).trans hy⟩
  · have hb : (p == p') = false := by rw [beq_eq_false_iff_ne]; exact hp
    have e : decide (p = p' ∧ xs = ys) = false := decide_eq_false fun h => hp h.1
    rw [e]
    clear hp e C
    go_enter Try.func11, Try.ntmps11
    go_wp2_with fail
    go_ret
    exact ⟨rfl, ((Ext.refl w).alloc _).alloc _⟩
end Go.Proofs.Ytemnhnhpaaoccaa
