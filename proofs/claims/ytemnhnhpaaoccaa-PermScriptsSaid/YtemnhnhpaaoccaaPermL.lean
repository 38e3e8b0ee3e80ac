/- the document's DocTake; New and DocNew. -/
import Derived.Test.YtemnhnhpaaoccaaPermK
import Derived.Test.YtemnhnhpaaoccaaPermJ
namespace Go.Proofs.Ytemnhnhpaaoccaa
open Go.RowKit

theorem ret_ref {fn : Func} {p u : Tmp} (h : fn.results = #[.cell p 24, .tmp u]) {tmps : Array Value} {w : World} {g : Nat} {a b : Value} {t : TypeId} {fr : Nat × Nat} (hp : tmps.getD p undef = .pointer (some ⟨g, 0, none⟩)) (hg : w.heap[g]? = some (.cells #[a, b] t fr)) :
    (results fn tmps).run Try.prog w = .ok (.tuple #[.agg #[a, b], tmps.getD u undef]) w :=
  results_row_tmp h tmps w g t #[a, b] fr _ hp hg Try.underlying24 (by rfl) (by kernel_rfl)
set_option maxHeartbeats 1000000 in
theorem docTake_arg (w : World) (p t : Int) (A : Option Addr) (n c : Nat) (h : ¬ Ser t) : Calls Try.prog 13 #[semaV p A n c, .int .i64 t] w (RetS 0 0 [] 1 w) := by
  have K0 := Lib.hid (blk_newk (w.alloc (.cells #[.int .i64 p, .slice A n c] 24 (0, 0))) (.cells #[.int .i64 0, .slice none 0 0] 24 (0, 0)) (k := w.heap.size + 1) (by simp))
  have hx1 : ∀ o o' : Obj, Ext w ((w.alloc o).alloc o') := fun o o' => ((Ext.refl w).alloc o).alloc o'
  by_cases h1 : t < 1
  · go_enter Try.func13, Try.ntmps13
    go_wp2_with fail
    refine bodyPost_ret (ret_ref rfl rfl K0.out) rfl ?_
    exact ⟨none, 0, rfl, World.ownsRow_nil _ _ _ _, hx1 _ _⟩
  · have h2 : 4611686018427387903 < t := by
      refine Int.not_le.1 fun h3 => h ⟨by omega, h3⟩
    clear h
    go_enter Try.func13, Try.ntmps13
    go_wp2_with fail
    refine bodyPost_ret (ret_ref rfl rfl K0.out) rfl ?_
    exact ⟨none, 0, rfl, World.ownsRow_nil _ _ _ _, hx1 _ _⟩
set_option maxHeartbeats 4000000 in
theorem docTake_err (w : World) (p t : Int) (A : Option Addr) (n c : Nat) (xs : List Int) (q : Int) (hl : xs.length = n) (hn : n ≤ 17592186044416) (hr : Rd w A (ivals xs)) (hs : Ser t) (h : (¬ Form p xs ∧ q = 3) ∨ (Form p xs ∧ ((t ∈ xs ∧ q = 8) ∨ (t ∉ xs ∧ (n : Int) = p ∧ q = 9)))) :
    Calls Try.prog 13 #[semaV p A n c, .int .i64 t] w (RetS 0 0 [] q w) := by
  have KB0 := Lib.hid (blk_past (blk_new w (.cells #[.int .i64 p, .slice A n c] 24 (0, 0))) (.cells #[.int .i64 0, .slice none 0 0] 24 (0, 0)))
  have K0 := Lib.hid (blk_newk (w.alloc (.cells #[.int .i64 p, .slice A n c] 24 (0, 0))) (.cells #[.int .i64 0, .slice none 0 0] 24 (0, 0)) (k := w.heap.size + 1) (by simp))
  have Hl := Lib.hid hl; have Hr := Lib.hid hr; clear hl hr
  have hx1 : ∀ o o' : Obj, Ext w ((w.alloc o).alloc o') := fun o o' => ((Ext.refl w).alloc o).alloc o'
  have hs1 : ¬ t < 1 := by have := hs.1; omega
  have hs2 : ¬ 4611686018427387903 < t := by have := hs.2; omega
  clear hs
  go_enter Try.func13, Try.ntmps13
  go_wp2_with fail
  refine (refCheck_any _ p A n c xs Hl.out hn (Hr.out.ext (hx1 _ _))).mono ?_
  rintro e w2 ⟨rfl, hy2⟩
  have KB2 := Lib.hid (blk_ext KB0.out hy2); have K2 := Lib.hid (blk_ext K0.out hy2)
  have hx2 := (hx1 _ _).trans hy2
  clear hy2 hx1
  rcases h with ⟨hF, rfl⟩ | ⟨hF, h⟩
  · rw [formE_no hF]
    have k0 := blk_cell K2.out 0; have k1 := blk_cell K2.out 1; have f0 := blk_frozen K2.out 0; have f1 := blk_frozen K2.out 1
    clear hF
    go_wp2_with fail
    refine bodyPost_ret (ret_ref rfl rfl (row2 K2.out _ _)) rfl ?_
    exact retS_zero hx2 (by omega) _ _
  · rw [formE_yes hF]
    clear hF
    have b0 := blk_cell KB2.out 0; have b1 := blk_cell KB2.out 1
    go_wp2_with fail
    refine (toE_q (refHas_any w2 t A n c xs Hl.out hn (Hr.out.ext hx2))).mono ?_
    rintro e w3 ⟨rfl, hy3⟩
    have KB3 := Lib.hid (blk_ext KB2.out hy3); have K3 := Lib.hid (blk_ext K2.out hy3)
    have hx3 := hx2.trans hy3
    clear b0 b1 hy3
    have k0 := blk_cell K3.out 0; have k1 := blk_cell K3.out 1; have f0 := blk_frozen K3.out 0; have f1 := blk_frozen K3.out 1
    have b0 := blk_cell KB3.out 0; have b1 := blk_cell KB3.out 1
    rcases h with ⟨hm, rfl⟩ | ⟨hm, hnp, rfl⟩
    · rw [decide_eq_true hm]
      clear hm
      go_wp2_with fail
      refine bodyPost_ret (ret_ref rfl rfl (row2 K3.out _ _)) rfl ?_
      exact retS_zero hx3 (by omega) _ _
    · rw [decide_eq_false hm]
      have hb : ((n : Int) == p) = true := by simp [hnp]
      clear hm hnp
      go_wp2_with fail
      refine bodyPost_ret (ret_ref rfl rfl (row2 K3.out _ _)) rfl ?_
      exact retS_zero hx3 (by omega) _ _
set_option maxHeartbeats 8000000 in
set_option maxRecDepth 100000 in
theorem docTake_ok (w : World) (p t : Int) (A : Option Addr) (n c at_ : Nat) (xs : List Int) (hl : xs.length = n) (hr : Rd w A (ivals xs)) (hs : Ser t) (hF : Form p xs) (ha : At xs t at_) (hm : t ∉ xs) (hnp : (n : Int) < p) :
    Calls Try.prog 13 #[semaV p A n c, .int .i64 t] w (RetS p (n + 1) (insL xs at_ t) 0 w) := by
  have hn64 : n ≤ 64 := by have := hF.2.1; omega
  have KB0 := Lib.hid (blk_past (blk_new w (.cells #[.int .i64 p, .slice A n c] 24 (0, 0))) (.cells #[.int .i64 0, .slice none 0 0] 24 (0, 0)))
  have K0 := Lib.hid (blk_newk (w.alloc (.cells #[.int .i64 p, .slice A n c] 24 (0, 0))) (.cells #[.int .i64 0, .slice none 0 0] 24 (0, 0)) (k := w.heap.size + 1) (by simp))
  have Hl := Lib.hid hl; have Hr := Lib.hid hr
  have hx1 : ∀ o o' : Obj, Ext w ((w.alloc o).alloc o') := fun o o' => ((Ext.refl w).alloc o).alloc o'
  have hs1 : ¬ t < 1 := by have := hs.1; omega
  have hs2 : ¬ 4611686018427387903 < t := by have := hs.2; omega
  have Cp := Lib.hid (fun W (hx : Ext w W) => put_any W t A n c at_ xs hl (by omega) (hr.ext hx) ha hm)
  have Cc := Lib.hid (fun W (hx : Ext w W) => refCheck_any W p A n c xs hl (by omega) (hr.ext hx))
  have Ch := Lib.hid (fun W (hx : Ext w W) => toE_q (refHas_any W t A n c xs hl (by omega) (hr.ext hx)))
  have Hfe := Lib.hid (formE_yes hF); have Hm := Lib.hid (decide_eq_false hm)
  have hb : ((n : Int) == p) = false := by rw [beq_eq_false_iff_ne]; omega
  clear hl hr ha hm hF hnp hs
  go_enter Try.func13, Try.ntmps13
  go_wp2_with fail
  refine (Cc.out _ (hx1 _ _)).mono ?_
  rintro e w2 ⟨rfl, hy2⟩
  rw [Hfe.out]
  have KB2 := Lib.hid (blk_ext KB0.out hy2); have K2 := Lib.hid (blk_ext K0.out hy2)
  have hx2 := (hx1 _ _).trans hy2
  clear hy2 hx1
  have b0 := blk_cell KB2.out 0; have b1 := blk_cell KB2.out 1
  go_wp2_with fail
  refine (Ch.out w2 hx2).mono ?_
  rintro e w3 ⟨rfl, hy3⟩
  rw [Hm.out]
  have KB3 := Lib.hid (blk_ext KB2.out hy3); have K3 := Lib.hid (blk_ext K2.out hy3)
  have hx3 := hx2.trans hy3
  clear b0 b1 hy3 Cc Ch
  have hs3 : w.heap.size + 2 ≤ w3.heap.size := by have := blk_lt K3.out; omega
  have hne : w.heap.size ≠ w.heap.size + 1 := by omega
  have CP := Lib.hid (Cp.out w3.drew hx3.drew)
  have hsd : w3.drew.heap.size = w3.heap.size := rfl
  have b0 := blk_cell KB3.out 0; have b1 := blk_cell KB3.out 1
  have r0 : w3.cell? ⟨w.heap.size, 0, none⟩ = some (.int .i64 p) := blk_cell KB3.out 0
  have r1 : w3.cell? ⟨w.heap.size, 1, none⟩ = some (.slice A n c) := blk_cell KB3.out 1
  have d0 : w3.drew.cell? ⟨w.heap.size, 0, none⟩ = some (.int .i64 p) := r0
  have d1 : w3.drew.cell? ⟨w.heap.size, 1, none⟩ = some (.slice A n c) := r1
  go_upto_region 9 with fail
  go_region_held3 (fun w' => w'.cell? ⟨w.heap.size, 0, none⟩ = some (.int .i64 p) ∧ w'.cell? ⟨w.heap.size, 1, none⟩ = some (.slice A n c))
    (((try go_split_ands); refine ⟨?_, ?_⟩ <;> first | assumption | (with_reducible exact d0) | (with_reducible exact d1) | (with_reducible exact s0) | (with_reducible exact s1) | (with_reducible exact cell_other (cell_other s0 hne) hne) | (with_reducible exact cell_other (cell_other s1 hne) hne) | (with_reducible exact drew_cell (cell_other (cell_other s0 hne) hne)) | (with_reducible exact drew_cell (cell_other (cell_other s1 hne) hne))))
    (first
      | (go_at_call 24; (with_reducible refine CP.out.mono ?_); rintro e5 w5 ⟨A4, c4, rfl, ho5, hy5⟩; have HO5 := Lib.hid ho5; have hx35 : Ext w3 w5 := ((Ext.refl w3).drew).trans hy5; have s0 := ext_cell hx35 r0; have s1 := ext_cell hx35 r1; have KT5 := Lib.hid (blk_ext K3.out hx35); have u0 := blk_cell KT5.out 0; have u1 := blk_cell KT5.out 1; have v0 := blk_frozen KT5.out 0; have v1 := blk_frozen KT5.out 1; clear ho5 hy5))
  all_goals
    go_wp2_with fail
    refine bodyPost_ret (ret_ref rfl rfl (row2 KT5.out _ _)) rfl ?_
    exact ⟨A4, c4, rfl, own_base (own_row2 (own_base (base' := w.heap.size + 2) HO5.out (by omega)) (by omega) _ _) (by omega), ext_row2 (hx3.trans hx35) (by omega) _ _⟩
/-- what New answers -/
def NewIs (p q P : Int) : Prop := ((q == 0) = false ∧ P = 0 ∧ q = 1 ∧ ¬ (1 ≤ p ∧ p ≤ 64)) ∨ (q = 0 ∧ P = p ∧ 1 ≤ p ∧ p ≤ 64)
theorem new_cases (p : Int) : ∃ q P : Int, NewIs p q P ∧ (∀ w, Calls Try.prog 14 #[.int .i64 p] w (RetE (.tuple #[semaV P none 0 0, .int .i64 q]) w)) ∧ (∀ w, Calls Try.prog 15 #[.int .i64 p] w (RetE (.tuple #[semaV P none 0 0, .int .i64 q]) w)) := by
  by_cases h1 : p < 1
  · refine ⟨1, 0, .inl ⟨rfl, rfl, rfl, by omega⟩, fun w => ?_, fun w => ?_⟩
    · go_enter Try.func14, Try.ntmps14
      go_wp2_with fail
      refine bodyPost_ret (ret_sem rfl rfl (heap_alloc_new w _)) rfl ?_
      exact ⟨rfl, (Ext.refl w).alloc _⟩
    · go_enter Try.func15, Try.ntmps15
      go_wp2_with fail
      refine bodyPost_ret (ret_ref rfl rfl (heap_alloc_new w _)) rfl ?_
      exact ⟨rfl, (Ext.refl w).alloc _⟩
  by_cases h2 : 64 < p
  · refine ⟨1, 0, .inl ⟨rfl, rfl, rfl, by omega⟩, fun w => ?_, fun w => ?_⟩
    · go_enter Try.func14, Try.ntmps14
      go_wp2_with fail
      refine bodyPost_ret (ret_sem rfl rfl (heap_alloc_new w _)) rfl ?_
      exact ⟨rfl, (Ext.refl w).alloc _⟩
    · go_enter Try.func15, Try.ntmps15
      go_wp2_with fail
      refine bodyPost_ret (ret_ref rfl rfl (heap_alloc_new w _)) rfl ?_
      exact ⟨rfl, (Ext.refl w).alloc _⟩
  · refine ⟨0, p, .inr ⟨rfl, rfl, by omega, by omega⟩, fun w => ?_, fun w => ?_⟩
    · go_enter Try.func14, Try.ntmps14
      go_wp2_with fail
      refine bodyPost_ret (ret_sem rfl rfl (heap_alloc_new w _)) rfl ?_
      exact ⟨rfl, (Ext.refl w).alloc _⟩
    · go_enter Try.func15, Try.ntmps15
      go_wp2_with fail
      refine bodyPost_ret (ret_ref rfl rfl (heap_alloc_new w _)) rfl ?_
      exact ⟨rfl, (Ext.refl w).alloc _⟩
end Go.Proofs.Ytemnhnhpaaoccaa
