/- the document's Drop and DocGive; perm's Has and Free. -/
import Derived.Test.YtemnhnhpaaoccaaPermM
namespace Go.Proofs.Ytemnhnhpaaoccaa
open Go.RowKit

theorem filter_succ {xs : List Int} {j : Nat} {t : Int} (h : j < xs.length) : (xs.take (j + 1)).filter (· != t) = (xs.take j).filter (· != t) ++ (if xs.getD j 0 = t then [] else [xs.getD j 0]) := by
  rw [take_succI h, List.filter_append]
  obtain ⟨x, hx⟩ : ∃ x, xs.getD j 0 = x := ⟨_, rfl⟩
  rw [hx]
  by_cases e : x = t
  · rw [if_pos e, List.filter_cons]
    simp [e]
  · rw [if_neg e, List.filter_cons]
    simp [e]
set_option maxHeartbeats 4000000 in
set_option maxRecDepth 100000 in
theorem drop_any (w : World) (t : Int) (A : Option Addr) (n c : Nat) (xs : List Int) (hl : xs.length = n) (hn : n ≤ 1000) (hr : Rd w A (ivals xs)) :
    Calls Try.prog 23 #[.slice A n c, .int .i64 t] w fun e w' => ∃ A' m c', e = .returned (.slice A' m c') ∧ w'.ownsRow w.heap.size 2 1 (.slice A' m c') m (ivals (xs.filter (· != t))) ∧ Ext w w' := by
  have Hl := Lib.hid hl; have Hr := Lib.hid hr
  clear hl hr
  go_enter Try.func23, Try.ntmps23
  go_wp2_with fail
  go_loopw [5, 10] (fun l i wr => ∃ (j m : Nat) (A' : Option Addr) (c' : Nat), j ≤ n ∧ i = .int .i64 (j : Int) ∧ m ≤ j ∧ l = .slice A' m c' ∧ wr.ownsRow w.heap.size 2 1 (.slice A' m c') m (ivals ((xs.take j).filter (· != t))) ∧ Ext w wr) (fun _ i _ => n - (intOf i).toNat)
  case atStart => exact ⟨0, 0, none, 0, Nat.zero_le _, rfl, by omega, rfl, World.ownsRow_nil _ _ _ _, Ext.refl w⟩
  case round =>
    obtain ⟨j, m, A', c', hj, rfl, hmj, rfl, ho, hx⟩ := hrel
    by_cases hlt : j < n
    · obtain ⟨b, off, hA, _, hc⟩ := (Hr.out.ext hx).atI (j := j) (by rw [Hl.out]; exact hlt)
      obtain ⟨x, Hx⟩ : ∃ x, Hid (xs.getD j 0 = x) := ⟨_, rfl⟩
      have hf := filter_succ (t := t) (show j < xs.length by rw [Hl.out]; exact hlt)
      rw [Hx.out] at hc hf
      have hs : w.heap.size ≤ wr.heap.size := hx.size
      have J1 := Lib.hid (show j + 1 ≤ n by omega); have M1 := Lib.hid (show m + 1 ≤ j + 1 by omega); have M0 := Lib.hid (show m ≤ j + 1 by omega)
      subst hA
      by_cases hxt : x = t
      · rw [if_pos hxt, List.append_nil] at hf
        have hb : (x != t) = false := by simp [hxt]
        have E := Lib.hid hf
        clear hxt hf
        go_wp2_with fail
        go_roundw
        case rel => exact ⟨j + 1, m, A', c', J1.out, by go_num, M0.out, rfl, by rw [E.out]; exact ho, hx⟩
        case measure => simp [intOf]; omega
      · rw [if_neg hxt] at hf
        have hb : (x != t) = true := by simp [hxt]
        have E := Lib.hid hf
        clear hxt hf
        go_wp2_with (at_builtin; refine app_i64 _ rfl (.tmp 17) (.tmp 19) rfl w.heap.size rfl (ho.alloc _) rfl (m := 1) (news := [x]) rfl (rd_new _ [.int .i64 x] _) (by omega) (by rw [World.size_alloc]; omega) ?_; intro A1 c1 w1 hown1 hgrow1 _; have hx1 : Ext w w1 := (hx.alloc _).grown hgrow1 (own_ge ho))
        go_roundw
        case rel => exact ⟨j + 1, m + 1, A1, c1, J1.out, by go_num, M1.out, rfl, by rw [E.out]; exact hown1, hx1⟩
        case measure => simp [intOf]; omega
    · obtain rfl : j = n := by omega
      have e1 : xs.take j = xs := List.take_of_length_le (by rw [Hl.out]; exact Nat.le_refl _)
      rw [e1] at ho
      clear e1
      go_wp2_with fail
      go_ret
      exact ⟨A', m, c', rfl, ho, hx⟩
set_option maxHeartbeats 4000000 in
theorem docGive_err (w : World) (p t : Int) (A : Option Addr) (n c : Nat) (xs : List Int) (q : Int) (hl : xs.length = n) (hn : n ≤ 17592186044416) (hr : Rd w A (ivals xs)) (h : (¬ Form p xs ∧ q = 3) ∨ (Form p xs ∧ t ∉ xs ∧ q = 11)) :
    Calls Try.prog 17 #[semaV p A n c, .int .i64 t] w (RetS 0 0 [] q w) := by
  have KB0 := Lib.hid (blk_past (blk_new w (.cells #[.int .i64 p, .slice A n c] 24 (0, 0))) (.cells #[.int .i64 0, .slice none 0 0] 24 (0, 0)))
  have K0 := Lib.hid (blk_newk (w.alloc (.cells #[.int .i64 p, .slice A n c] 24 (0, 0))) (.cells #[.int .i64 0, .slice none 0 0] 24 (0, 0)) (k := w.heap.size + 1) (by simp))
  have Hl := Lib.hid hl; have Hr := Lib.hid hr; clear hl hr
  have hx1 : ∀ o o' : Obj, Ext w ((w.alloc o).alloc o') := fun o o' => ((Ext.refl w).alloc o).alloc o'
  go_enter Try.func17, Try.ntmps17
  go_wp2_with fail
  refine (refCheck_any _ p A n c xs Hl.out hn (Hr.out.ext (hx1 _ _))).mono ?_
  rintro e w2 ⟨rfl, hy2⟩
  have KB2 := Lib.hid (blk_ext KB0.out hy2); have K2 := Lib.hid (blk_ext K0.out hy2)
  have hx2 := (hx1 _ _).trans hy2
  clear hy2 hx1
  rcases h with ⟨hF, rfl⟩ | ⟨hF, hm, rfl⟩
  · rw [formE_no hF]
    have k0 := blk_cell K2.out 0; have k1 := blk_cell K2.out 1; have f0 := blk_frozen K2.out 0; have f1 := blk_frozen K2.out 1
    clear hF
    go_wp2_with fail
    refine bodyPost_ret (ret_ref rfl rfl (row2 K2.out _ _)) rfl ?_
    exact retS_zero hx2 (by omega) _ _
  · rw [formE_yes hF]
    clear hF
    have b0 := blk_cell KB2.out 0; have b1 := blk_cell KB2.out 1
    go_wp2_with fail
    refine (toE_q (refHas_any w2 t A n c xs Hl.out hn (Hr.out.ext hx2))).mono ?_
    rintro e w3 ⟨rfl, hy3⟩
    have KB3 := Lib.hid (blk_ext KB2.out hy3); have K3 := Lib.hid (blk_ext K2.out hy3)
    have hx3 := hx2.trans hy3
    clear b0 b1 hy3
    have k0 := blk_cell K3.out 0; have k1 := blk_cell K3.out 1; have f0 := blk_frozen K3.out 0; have f1 := blk_frozen K3.out 1
    rw [decide_eq_false hm]
    clear hm
    go_wp2_with fail
    refine bodyPost_ret (ret_ref rfl rfl (row2 K3.out _ _)) rfl ?_
    exact retS_zero hx3 (by omega) _ _
set_option maxHeartbeats 8000000 in
set_option maxRecDepth 100000 in
theorem docGive_ok (w : World) (p t : Int) (A : Option Addr) (n c at_ : Nat) (xs : List Int) (hl : xs.length = n) (hr : Rd w A (ivals xs)) (hF : Form p xs) (ha : At xs t at_) (hm : t ∈ xs) :
    Calls Try.prog 17 #[semaV p A n c, .int .i64 t] w (RetS p (n - 1) (delL xs at_) 0 w) := by
  have hn64 : n ≤ 64 := by have := hF.2.1; have := hF.2.2.1; omega
  have KB0 := Lib.hid (blk_past (blk_new w (.cells #[.int .i64 p, .slice A n c] 24 (0, 0))) (.cells #[.int .i64 0, .slice none 0 0] 24 (0, 0)))
  have K0 := Lib.hid (blk_newk (w.alloc (.cells #[.int .i64 p, .slice A n c] 24 (0, 0))) (.cells #[.int .i64 0, .slice none 0 0] 24 (0, 0)) (k := w.heap.size + 1) (by simp))
  have Hl := Lib.hid hl; have Hr := Lib.hid hr
  have hx1 : ∀ o o' : Obj, Ext w ((w.alloc o).alloc o') := fun o o' => ((Ext.refl w).alloc o).alloc o'
  have hkm := (at_mem ha hF.2.2.2).1 hm
  have hdl : (delL xs at_).length = n - 1 := by rw [delL_len hkm.1, hl]
  have Cp : Hid (∀ W, Ext w W → Calls Try.prog 23 #[.slice A n c, .int .i64 t] W fun e w' => ∃ A' c', e = .returned (.slice A' (n - 1) c') ∧ w'.ownsRow W.heap.size 2 1 (.slice A' (n - 1) c') (n - 1) (ivals (delL xs at_)) ∧ Ext W w') := Lib.hid fun W hx => by
    refine (drop_any W t A n c xs hl (by omega) (hr.ext hx)).mono ?_
    rintro e w' ⟨A', m, c', rfl, ho, hy⟩
    rw [← del_filter hF.2.2.2 hkm.1 hkm.2] at ho
    have hm1 : n - 1 = m := by have := ho.1; rw [ivals_len, hdl, Nat.mul_one] at this; exact this
    subst hm1
    exact ⟨A', c', rfl, ho, hy⟩
  have Cc := Lib.hid (fun W (hx : Ext w W) => refCheck_any W p A n c xs hl (by omega) (hr.ext hx))
  have Ch := Lib.hid (fun W (hx : Ext w W) => toE_q (refHas_any W t A n c xs hl (by omega) (hr.ext hx)))
  have Hfe := Lib.hid (formE_yes hF); have Hm := Lib.hid (decide_eq_true hm)
  clear hl hr ha hm hF hkm hdl
  go_enter Try.func17, Try.ntmps17
  go_wp2_with fail
  refine (Cc.out _ (hx1 _ _)).mono ?_
  rintro e w2 ⟨rfl, hy2⟩
  rw [Hfe.out]
  have KB2 := Lib.hid (blk_ext KB0.out hy2); have K2 := Lib.hid (blk_ext K0.out hy2)
  have hx2 := (hx1 _ _).trans hy2
  clear hy2 hx1
  have b0 := blk_cell KB2.out 0; have b1 := blk_cell KB2.out 1
  go_wp2_with fail
  refine (Ch.out w2 hx2).mono ?_
  rintro e w3 ⟨rfl, hy3⟩
  rw [Hm.out]
  have KB3 := Lib.hid (blk_ext KB2.out hy3); have K3 := Lib.hid (blk_ext K2.out hy3)
  have hx3 := hx2.trans hy3
  clear b0 b1 hy3 Cc Ch
  have hs3 : w.heap.size + 2 ≤ w3.heap.size := by have := blk_lt K3.out; omega
  have hne : w.heap.size ≠ w.heap.size + 1 := by omega
  have CP := Lib.hid (Cp.out w3.drew hx3.drew)
  have hsd : w3.drew.heap.size = w3.heap.size := rfl
  have r0 : w3.cell? ⟨w.heap.size, 0, none⟩ = some (.int .i64 p) := blk_cell KB3.out 0
  have r1 : w3.cell? ⟨w.heap.size, 1, none⟩ = some (.slice A n c) := blk_cell KB3.out 1
  have d0 : w3.drew.cell? ⟨w.heap.size, 0, none⟩ = some (.int .i64 p) := r0
  have d1 : w3.drew.cell? ⟨w.heap.size, 1, none⟩ = some (.slice A n c) := r1
  go_upto_region 5 with fail
  go_region_held3 (fun w' => w'.cell? ⟨w.heap.size, 0, none⟩ = some (.int .i64 p) ∧ w'.cell? ⟨w.heap.size, 1, none⟩ = some (.slice A n c))
    (((try go_split_ands); refine ⟨?_, ?_⟩ <;> first | assumption | (with_reducible exact d0) | (with_reducible exact d1) | (with_reducible exact s0) | (with_reducible exact s1) | (with_reducible exact cell_other (cell_other s0 hne) hne) | (with_reducible exact cell_other (cell_other s1 hne) hne) | (with_reducible exact drew_cell (cell_other (cell_other s0 hne) hne)) | (with_reducible exact drew_cell (cell_other (cell_other s1 hne) hne))))
    (first
      | (go_at_call 23; (with_reducible refine CP.out.mono ?_); rintro e5 w5 ⟨A4, c4, rfl, ho5, hy5⟩; have HO5 := Lib.hid ho5; have hx35 : Ext w3 w5 := ((Ext.refl w3).drew).trans hy5; have s0 := ext_cell hx35 r0; have s1 := ext_cell hx35 r1; have KT5 := Lib.hid (blk_ext K3.out hx35); have u0 := blk_cell KT5.out 0; have u1 := blk_cell KT5.out 1; have v0 := blk_frozen KT5.out 0; have v1 := blk_frozen KT5.out 1; clear ho5 hy5))
  all_goals
    go_wp2_with fail
    refine bodyPost_ret (ret_ref rfl rfl (row2 KT5.out _ _)) rfl ?_
    exact ⟨A4, c4, rfl, own_base (own_row2 (own_base (base' := w.heap.size + 2) HO5.out (by omega)) (by omega) _ _) (by omega), ext_row2 (hx3.trans hx35) (by omega) _ _⟩
theorem permHas_any (w : World) (p t : Int) (A : Option Addr) (n c : Nat) (xs : List Int) (hl : xs.length = n) (hn : n ≤ 17592186044416) (hr : Rd w A (ivals xs)) :
    Calls Try.prog 18 #[semaV p A n c, .int .i64 t] w fun e w' => ∃ b : Bool, e = .returned (.tuple #[.bool b, .int .i64 (formE p xs)]) ∧ (Form p xs → b = decide (t ∈ xs)) ∧ (¬ Form p xs → b = false) ∧ Ext w w' := by
  have KB0 := Lib.hid (blk_new w (.cells #[.int .i64 p, .slice A n c] 26 (0, 0)))
  have Hl := Lib.hid hl; have Hr := Lib.hid hr; clear hl hr
  go_enter Try.func18, Try.ntmps18
  go_wp2_with fail
  refine (check_any _ p A n c xs Hl.out hn (Hr.out.alloc _)).mono ?_
  rintro e w2 ⟨rfl, hy2⟩
  have hx2 := ((Ext.refl w).alloc (.cells #[.int .i64 p, .slice A n c] 26 (0, 0))).trans hy2
  have KB2 := Lib.hid (blk_ext KB0.out hy2)
  clear hy2
  by_cases hF : Form p xs
  · rw [formE_yes hF]
    have b0 := blk_cell KB2.out 0; have b1 := blk_cell KB2.out 1
    have HF := Lib.hid hF; clear hF
    go_wp2_with fail
    refine (toE_q (contains_any w2 t A n c xs Hl.out hn (Hr.out.ext hx2))).mono ?_
    rintro e w3 ⟨rfl, hy3⟩
    go_wp2_with fail
    go_ret2
    exact ⟨_, ret_t2 rfl (int_eq (formE_yes HF.out).symm), fun _ => rfl, fun h => absurd HF.out h, hx2.trans hy3⟩
  · rw [formE_no hF]
    have HF := Lib.hid hF; clear hF
    go_wp2_with fail
    go_ret2
    exact ⟨false, ret_t2 rfl (int_eq (formE_no HF.out).symm), fun h => absurd h HF.out, fun _ => rfl, hx2⟩
theorem permFree_any (w : World) (p : Int) (A : Option Addr) (n c : Nat) (xs : List Int) (hl : xs.length = n) (hn : n ≤ 17592186044416) (hr : Rd w A (ivals xs)) :
    Calls Try.prog 19 #[semaV p A n c] w fun e w' => ∃ f : Int, e = .returned (.tuple #[.int .i64 f, .int .i64 (formE p xs)]) ∧ (Form p xs → f = p - n) ∧ (¬ Form p xs → f = 0) ∧ Ext w w' := by
  have KB0 := Lib.hid (blk_new w (.cells #[.int .i64 p, .slice A n c] 26 (0, 0)))
  have Hl := Lib.hid hl; have Hr := Lib.hid hr; clear hl hr
  go_enter Try.func19, Try.ntmps19
  go_wp2_with fail
  refine (check_any _ p A n c xs Hl.out hn (Hr.out.alloc _)).mono ?_
  rintro e w2 ⟨rfl, hy2⟩
  have hx2 := ((Ext.refl w).alloc (.cells #[.int .i64 p, .slice A n c] 26 (0, 0))).trans hy2
  have KB2 := Lib.hid (blk_ext KB0.out hy2)
  clear hy2
  by_cases hF : Form p xs
  · rw [formE_yes hF]
    have b0 := blk_cell KB2.out 0; have b1 := blk_cell KB2.out 1
    have hw : IntKind.i64.wrap (p - (n : Int)) = p - (n : Int) := by have := hF.1; have := hF.2.1; have := hF.2.2.1; rw [Hl.out] at this; rw [IntKind.wrap_i64]; omega
    have HF := Lib.hid hF; clear hF
    go_wp2_with fail
    go_ret2
    exact ⟨_, ret_t2 rfl (int_eq (formE_yes HF.out).symm), fun _ => rfl, fun h => absurd HF.out h, hx2⟩
  · rw [formE_no hF]
    have HF := Lib.hid hF; clear hF
    go_wp2_with fail
    go_ret2
    exact ⟨0, ret_t2 rfl (int_eq (formE_no HF.out).symm), fun h => absurd h HF.out, fun _ => rfl, hx2⟩
end Go.Proofs.Ytemnhnhpaaoccaa
