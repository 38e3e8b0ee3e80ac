/- perm.Give. -/
import Derived.Test.YtemnhnhpaaoccaaPermF
namespace Go.Proofs.Ytemnhnhpaaoccaa
open Go.RowKit

set_option maxHeartbeats 4000000 in
theorem give_err (w : World) (p t : Int) (A : Option Addr) (n c : Nat) (xs : List Int) (q : Int) (hl : xs.length = n) (hn : n ≤ 17592186044416) (hr : Rd w A (ivals xs)) (h : (¬ Form p xs ∧ q = 3) ∨ (Form p xs ∧ t ∉ xs ∧ q = 11)) :
    Calls Try.prog 10 #[semaV p A n c, .int .i64 t] w (RetS 0 0 [] q w) := by
  have KB0 := Lib.hid (blk_past (blk_new w (.cells #[.int .i64 p, .slice A n c] 26 (0, 0))) (.cells #[.int .i64 0, .slice none 0 0] 26 (0, 0)))
  have K0 := Lib.hid (blk_newk (w.alloc (.cells #[.int .i64 p, .slice A n c] 26 (0, 0))) (.cells #[.int .i64 0, .slice none 0 0] 26 (0, 0)) (k := w.heap.size + 1) (by simp))
  have Hl := Lib.hid hl; have Hr := Lib.hid hr; clear hl hr
  have hx1 : ∀ o o' : Obj, Ext w ((w.alloc o).alloc o') := fun o o' => ((Ext.refl w).alloc o).alloc o'
  go_enter Try.func10, Try.ntmps10
  go_wp2_with fail
  refine (check_any _ p A n c xs Hl.out hn (Hr.out.ext (hx1 _ _))).mono ?_
  rintro e w2 ⟨rfl, hy2⟩
  have KB2 := Lib.hid (blk_ext KB0.out hy2); have K2 := Lib.hid (blk_ext K0.out hy2)
  have hx2 := (hx1 _ _).trans hy2
  clear hy2 hx1
  rcases h with ⟨hF, rfl⟩ | ⟨hF, hm, rfl⟩
  · rw [formE_no hF]
    have k0 := blk_cell K2.out 0; have k1 := blk_cell K2.out 1; have f0 := blk_frozen K2.out 0; have f1 := blk_frozen K2.out 1
    clear hF
    go_wp2_with fail
    refine bodyPost_ret (ret_sem rfl rfl (row2 K2.out _ _)) rfl ?_
    exact retS_zero hx2 (by omega) _ _
  · rw [formE_yes hF]
    obtain ⟨at_, ha⟩ := at_some hF.2.2.2 t
    have C := Lib.hid (fun W (hx : Ext w W) => search_any W t A n c xs Hl.out hn (Hr.out.ext hx) hF.2.2.2 at_ ha)
    clear ha hF
    have b0 := blk_cell KB2.out 0; have b1 := blk_cell KB2.out 1
    go_wp2_with fail
    refine (C.out w2 hx2).mono ?_
    rintro e w3 ⟨rfl, hy3⟩
    have KB3 := Lib.hid (blk_ext KB2.out hy3); have K3 := Lib.hid (blk_ext K2.out hy3)
    have hx3 := hx2.trans hy3
    clear b0 b1 hy3 C
    have k0 := blk_cell K3.out 0; have k1 := blk_cell K3.out 1; have f0 := blk_frozen K3.out 0; have f1 := blk_frozen K3.out 1
    rw [decide_eq_false hm]
    clear hm
    go_wp2_with fail
    refine bodyPost_ret (ret_sem rfl rfl (row2 K3.out _ _)) rfl ?_
    exact retS_zero hx3 (by omega) _ _
set_option maxHeartbeats 8000000 in
set_option maxRecDepth 100000 in
theorem give_ok (w : World) (p t : Int) (A : Option Addr) (n c at_ : Nat) (xs : List Int) (hl : xs.length = n) (hr : Rd w A (ivals xs)) (hF : Form p xs) (ha : At xs t at_) (hm : t ∈ xs) :
    Calls Try.prog 10 #[semaV p A n c, .int .i64 t] w (RetS p (n - 1) (delL xs at_) 0 w) := by
  have hn64 : n ≤ 64 := by have := hF.2.1; have := hF.2.2.1; omega
  have KB0 := Lib.hid (blk_past (blk_new w (.cells #[.int .i64 p, .slice A n c] 26 (0, 0))) (.cells #[.int .i64 0, .slice none 0 0] 26 (0, 0)))
  have K0 := Lib.hid (blk_newk (w.alloc (.cells #[.int .i64 p, .slice A n c] 26 (0, 0))) (.cells #[.int .i64 0, .slice none 0 0] 26 (0, 0)) (k := w.heap.size + 1) (by simp))
  have Hl := Lib.hid hl; have Hr := Lib.hid hr
  have hat : at_ < n := by rw [← hl]; exact ((at_mem ha hF.2.2.2).1 hm).1
  have C := Lib.hid (fun W (hx : Ext w W) => search_any W t A n c xs hl (by omega) (hr.ext hx) hF.2.2.2 at_ ha)
  have Cc := Lib.hid (fun W (hx : Ext w W) => check_any W p A n c xs hl (by omega) (hr.ext hx))
  have Hfe := Lib.hid (formE_yes hF); have Hm := Lib.hid (decide_eq_true hm)
  have hx1 : ∀ o o' : Obj, Ext w ((w.alloc o).alloc o') := fun o o' => ((Ext.refl w).alloc o).alloc o'
  clear hl hr ha hm hF
  go_enter Try.func10, Try.ntmps10
  go_wp2_with fail
  refine (Cc.out _ (hx1 _ _)).mono ?_
  rintro e w2 ⟨rfl, hy2⟩
  rw [Hfe.out]
  have KB2 := Lib.hid (blk_ext KB0.out hy2); have K2 := Lib.hid (blk_ext K0.out hy2)
  have hx2 := (hx1 _ _).trans hy2
  clear hy2 hx1
  have b0 := blk_cell KB2.out 0; have b1 := blk_cell KB2.out 1
  go_wp2_with fail
  refine (C.out w2 hx2).mono ?_
  rintro e w3 ⟨rfl, hy3⟩
  rw [Hm.out]
  have KB3 := Lib.hid (blk_ext KB2.out hy3); have K3 := Lib.hid (blk_ext K2.out hy3)
  have hx3 := hx2.trans hy3
  clear b0 b1 hy3 C Cc
  have hs3 : w.heap.size + 2 ≤ w3.heap.size := by have := blk_lt K3.out; omega
  have hne : w.heap.size ≠ w.heap.size + 1 := by omega
  have Hr3 := Lib.hid (show Rd w3.drew A (ivals xs) from Hr.out.ext hx3.drew)
  have hsd : w3.drew.heap.size = w3.heap.size := rfl
  have hn1000 : n ≤ 1000 := by omega
  have hwa : IntKind.i64.wrap ((at_ : Int) + 1) = (at_ : Int) + 1 := by rw [IntKind.wrap_i64]; omega
  have r0 : w3.cell? ⟨w.heap.size, 0, none⟩ = some (.int .i64 p) := blk_cell KB3.out 0
  have r1 : w3.cell? ⟨w.heap.size, 1, none⟩ = some (.slice A n c) := blk_cell KB3.out 1
  have d0 : w3.drew.cell? ⟨w.heap.size, 0, none⟩ = some (.int .i64 p) := r0
  have d1 : w3.drew.cell? ⟨w.heap.size, 1, none⟩ = some (.slice A n c) := r1
  go_upto_region 7 with fail
  go_region_held3 (fun w' => w'.cell? ⟨w.heap.size, 0, none⟩ = some (.int .i64 p) ∧ w'.cell? ⟨w.heap.size, 1, none⟩ = some (.slice A n c))
    (((try go_split_ands); refine ⟨?_, ?_⟩ <;> first | assumption | (with_reducible exact d0) | (with_reducible exact d1) | (with_reducible exact q0) | (with_reducible exact q1) | (with_reducible exact s0) | (with_reducible exact s1) | (with_reducible exact cell_other (cell_other s0 hne) hne) | (with_reducible exact cell_other (cell_other s1 hne) hne) | (with_reducible exact drew_cell (cell_other (cell_other s0 hne) hne)) | (with_reducible exact drew_cell (cell_other (cell_other s1 hne) hne))))
    (first
      | (go_at_call 28; refine (clone_any A n c xs _ Hl.out (by omega) Hr3.out).mono ?_; rintro e4 w4 ⟨A4, c4, rfl, ho4, hy4⟩; rw [Hl.out] at ho4 ⊢; have HO4 := Lib.hid ho4; have HY4 := Lib.hid hy4; have hx34 : Ext w3 w4 := ((Ext.refl w3).drew).trans hy4; have q0 := ext_cell hx34 r0; have q1 := ext_cell hx34 r1; clear ho4 hy4 hx34)
      | (go_at_call 29; (with_reducible refine (delete_any w4 w3.drew.heap.size A4 n c4 at_ xs Hl.out hn1000 hat HO4.out).mono ?_); rintro e5 w5 ⟨rfl, ho5, hg5⟩; have HO5 := Lib.hid ho5; have hx35 : Ext w3 w5 := (((Ext.refl w3).drew).trans HY4.out).grown hg5 (fun k hk => by have := own_ge HO4.out k hk; omega); have s0 := ext_cell hx35 r0; have s1 := ext_cell hx35 r1; have KT5 := Lib.hid (blk_ext K3.out hx35); have u0 := blk_cell KT5.out 0; have u1 := blk_cell KT5.out 1; have v0 := blk_frozen KT5.out 0; have v1 := blk_frozen KT5.out 1; clear ho5 hg5))
  all_goals
    go_wp2_with fail
    refine bodyPost_ret (ret_sem rfl rfl (row2 KT5.out _ _)) rfl ?_
    exact ⟨A4, c4, rfl, own_base (own_row2 (own_base (base' := w.heap.size + 2) HO5.out (by omega)) (by omega) _ _) (by omega), ext_row2 (hx3.trans hx35) (by omega) _ _⟩
end Go.Proofs.Ytemnhnhpaaoccaa
