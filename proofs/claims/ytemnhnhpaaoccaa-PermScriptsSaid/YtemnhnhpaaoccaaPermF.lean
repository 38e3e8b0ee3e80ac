/- perm.Take. -/
import Derived.Test.YtemnhnhpaaoccaaPermE
import Derived.Deep.RegionHeld3
namespace Go.Proofs.Ytemnhnhpaaoccaa
open Go.RowKit

abbrev semaV (p : Int) (A : Option Addr) (n c : Nat) : Value := .agg #[.int .i64 p, .slice A n c]
/-- an answer that is a semaphore over new memory, and a number -/
def RetS (p : Int) (m : Nat) (xs : List Int) (q : Int) (w : World) (e : Ending) (w' : World) : Prop :=
  ∃ A c, e = .returned (.tuple #[semaV p A m c, .int .i64 q]) ∧ w'.ownsRow w.heap.size 2 1 (.slice A m c) m (ivals xs) ∧ Ext w w'
theorem ret_sem {fn : Func} {p u : Tmp} (h : fn.results = #[.cell p 26, .tmp u]) {tmps : Array Value} {w : World} {g : Nat} {a b : Value} {t : TypeId} {fr : Nat × Nat} (hp : tmps.getD p undef = .pointer (some ⟨g, 0, none⟩)) (hg : w.heap[g]? = some (.cells #[a, b] t fr)) :
    (results fn tmps).run Try.prog w = .ok (.tuple #[.agg #[a, b], tmps.getD u undef]) w :=
  results_row_tmp h tmps w g t #[a, b] fr _ hp hg Try.underlying26 (by rfl) (by kernel_rfl)
theorem retS_zero {w w2 : World} {g : Nat} {q : Int} (h : Ext w w2) (hg : w.heap.size ≤ g) (a b : Value) : RetS 0 0 [] q w (.returned (.tuple #[semaV 0 none 0 0, .int .i64 q])) ((w2.setCell ⟨g, 0, none⟩ a).setCell ⟨g, 1, none⟩ b) :=
  ⟨none, 0, rfl, World.ownsRow_nil _ _ _ _, ext_row2 h hg _ _⟩
set_option maxHeartbeats 1000000 in
theorem take_arg (w : World) (p t : Int) (A : Option Addr) (n c : Nat) (h : ¬ Ser t) : Calls Try.prog 9 #[semaV p A n c, .int .i64 t] w (RetS 0 0 [] 1 w) := by
  have K0 := Lib.hid (blk_newk (w.alloc (.cells #[.int .i64 p, .slice A n c] 26 (0, 0))) (.cells #[.int .i64 0, .slice none 0 0] 26 (0, 0)) (k := w.heap.size + 1) (by simp))
  go_enter Try.func9, Try.ntmps9
  go_wp2_with fail
  refine (toE_q (serial_any _ t)).mono ?_
  rintro e w1 ⟨rfl, hy1⟩
  rw [decide_eq_false h]
  have K1 := Lib.hid (blk_ext K0.out hy1)
  have hx1 : Ext w w1 := (((Ext.refl w).alloc _).alloc _).trans hy1
  have k0 := blk_cell K1.out 0; have k1 := blk_cell K1.out 1; have f0 := blk_frozen K1.out 0; have f1 := blk_frozen K1.out 1
  clear h hy1
  go_wp2_with fail
  refine bodyPost_ret (ret_sem rfl rfl (row2 K1.out _ _)) rfl ?_
  exact retS_zero hx1 (by omega) _ _
set_option maxHeartbeats 4000000 in
theorem take_err (w : World) (p t : Int) (A : Option Addr) (n c : Nat) (xs : List Int) (q : Int) (hl : xs.length = n) (hn : n ≤ 17592186044416) (hr : Rd w A (ivals xs)) (hs : Ser t) (h : (¬ Form p xs ∧ q = 3) ∨ (Form p xs ∧ ((t ∈ xs ∧ q = 8) ∨ (t ∉ xs ∧ (n : Int) = p ∧ q = 9)))) :
    Calls Try.prog 9 #[semaV p A n c, .int .i64 t] w (RetS 0 0 [] q w) := by
  have KB0 := Lib.hid (blk_past (blk_new w (.cells #[.int .i64 p, .slice A n c] 26 (0, 0))) (.cells #[.int .i64 0, .slice none 0 0] 26 (0, 0)))
  have K0 := Lib.hid (blk_newk (w.alloc (.cells #[.int .i64 p, .slice A n c] 26 (0, 0))) (.cells #[.int .i64 0, .slice none 0 0] 26 (0, 0)) (k := w.heap.size + 1) (by simp))
  have Hl := Lib.hid hl; have Hr := Lib.hid hr; clear hl hr
  go_enter Try.func9, Try.ntmps9
  go_wp2_with fail
  refine (toE_q (serial_any _ t)).mono ?_
  rintro e w1 ⟨rfl, hy1⟩
  rw [decide_eq_true hs]
  have KB1 := Lib.hid (blk_ext KB0.out hy1); have K1 := Lib.hid (blk_ext K0.out hy1)
  have hx1 : Ext w w1 := (((Ext.refl w).alloc _).alloc _).trans hy1
  have b0 := blk_cell KB1.out 0; have b1 := blk_cell KB1.out 1
  clear hy1
  go_wp2_with fail
  refine (check_any w1 p A n c xs Hl.out hn (Hr.out.ext hx1)).mono ?_
  rintro e w2 ⟨rfl, hy2⟩
  have KB2 := Lib.hid (blk_ext KB1.out hy2); have K2 := Lib.hid (blk_ext K1.out hy2)
  have hx2 := hx1.trans hy2
  clear b0 b1 hy2
  rcases h with ⟨hF, rfl⟩ | ⟨hF, h⟩
  · rw [formE_no hF]
    have k0 := blk_cell K2.out 0; have k1 := blk_cell K2.out 1; have f0 := blk_frozen K2.out 0; have f1 := blk_frozen K2.out 1
    clear hF
    go_wp2_with fail
    refine bodyPost_ret (ret_sem rfl rfl (row2 K2.out _ _)) rfl ?_
    exact retS_zero hx2 (by omega) _ _
  · rw [formE_yes hF]
    obtain ⟨at_, ha⟩ := at_some hF.2.2.2 t
    have C := Lib.hid (fun W (hx : Ext w W) => search_any W t A n c xs Hl.out hn (Hr.out.ext hx) hF.2.2.2 at_ ha)
    clear ha hF
    have b0 := blk_cell KB2.out 0; have b1 := blk_cell KB2.out 1
    go_wp2_with fail
    refine (C.out w2 hx2).mono ?_
    rintro e w3 ⟨rfl, hy3⟩
    have KB3 := Lib.hid (blk_ext KB2.out hy3); have K3 := Lib.hid (blk_ext K2.out hy3)
    have hx3 := hx2.trans hy3
    clear b0 b1 hy3 C
    have k0 := blk_cell K3.out 0; have k1 := blk_cell K3.out 1; have f0 := blk_frozen K3.out 0; have f1 := blk_frozen K3.out 1
    have b0 := blk_cell KB3.out 0; have b1 := blk_cell KB3.out 1
    rcases h with ⟨hm, rfl⟩ | ⟨hm, hnp, rfl⟩
    · rw [decide_eq_true hm]
      clear hm
      go_wp2_with fail
      refine bodyPost_ret (ret_sem rfl rfl (row2 K3.out _ _)) rfl ?_
      exact retS_zero hx3 (by omega) _ _
    · rw [decide_eq_false hm]
      have hb : ((n : Int) == p) = true := by simp [hnp]
      clear hm hnp
      go_wp2_with fail
      refine bodyPost_ret (ret_sem rfl rfl (row2 K3.out _ _)) rfl ?_
      exact retS_zero hx3 (by omega) _ _
theorem own_undrew {w a : World} {n : Nat} {e : TypeId} {v : Value} {xs : List Value} (h : w.ownsRow a.drew.heap.size e 1 v n xs) : w.ownsRow a.heap.size e 1 v n xs := h
theorem ext_undrew {a b : World} (h : Ext a.drew b) : Ext a b := ⟨h.os, h.tape, h.output, h.size, h.block⟩
/-- slices.Insert onto a list of the call's own, the number laid before or behind it -/
def InsX (W : World) (n : Nat) (ys : List Int) (e : Ending) (w' : World) : Prop :=
  ∃ A c, e = .returned (.slice A (n + 1) c) ∧ w'.ownsRow W.heap.size 2 1 (.slice A (n + 1) c) (n + 1) (ivals ys) ∧ Ext W w'
theorem insert_b (W w4 : World) (A4 : Option Addr) (n c4 k : Nat) (xs : List Int) (t : Int) (hl : xs.length = n) (hn : n ≤ 1000) (hk : k ≤ n) (ho : w4.ownsRow W.heap.size 2 1 (.slice A4 n c4) n (ivals xs)) (hy : Ext W w4) :
    Calls Try.prog 27 #[.slice A4 n c4, .int .i64 (k : Int), .slice (some ⟨w4.heap.size, 0, none⟩) 1 1] (w4.alloc (.cells #[.int .i64 t] 2)) (InsX W n (insL xs k t)) := by
  refine (insert_any _ W.heap.size A4 n c4 w4.heap.size k xs t hl hn hk (ho.alloc _) (blk_new w4 _) (own_not ho (.inr (Nat.le_refl _))) (by have := hy.size; rw [World.size_alloc]; omega)).mono ?_
  rintro e w5 ⟨A5, c5, rfl, ho5, hg5⟩
  exact ⟨A5, c5, rfl, ho5, (hy.alloc _).grown hg5 (fun k hk => own_ge ho k hk)⟩
theorem insert_a (W w4 : World) (A4 : Option Addr) (n c4 k : Nat) (xs : List Int) (t : Int) (hl : xs.length = n) (hn : n ≤ 1000) (hk : k ≤ n) (ho : w4.ownsRow (W.alloc (.cells #[.int .i64 t] 2)).heap.size 2 1 (.slice A4 n c4) n (ivals xs)) (hy : Ext (W.alloc (.cells #[.int .i64 t] 2)) w4) :
    Calls Try.prog 27 #[.slice A4 n c4, .int .i64 (k : Int), .slice (some ⟨W.heap.size, 0, none⟩) 1 1] w4 (InsX W n (insL xs k t)) := by
  rw [World.size_alloc] at ho
  refine (insert_any w4 W.heap.size A4 n c4 W.heap.size k xs t hl hn hk (own_base ho (by omega)) (blk_ext (blk_new W _) hy) (own_not ho (.inl (by omega))) (by have := hy.size; rw [World.size_alloc] at this; omega)).mono ?_
  rintro e w5 ⟨A5, c5, rfl, ho5, hg5⟩
  exact ⟨A5, c5, rfl, ho5, (((Ext.refl W).alloc _).trans hy).grown hg5 (fun k hk => by have := own_ge ho k hk; omega)⟩
set_option maxHeartbeats 8000000 in
set_option maxRecDepth 100000 in
theorem take_ok (w : World) (p t : Int) (A : Option Addr) (n c at_ : Nat) (xs : List Int) (hl : xs.length = n) (hr : Rd w A (ivals xs)) (hs : Ser t) (hF : Form p xs) (ha : At xs t at_) (hm : t ∉ xs) (hnp : (n : Int) < p) :
    Calls Try.prog 9 #[semaV p A n c, .int .i64 t] w (RetS p (n + 1) (insL xs at_ t) 0 w) := by
  have hn64 : n ≤ 64 := by have := hF.2.1; omega
  have KB0 := Lib.hid (blk_past (blk_new w (.cells #[.int .i64 p, .slice A n c] 26 (0, 0))) (.cells #[.int .i64 0, .slice none 0 0] 26 (0, 0)))
  have K0 := Lib.hid (blk_newk (w.alloc (.cells #[.int .i64 p, .slice A n c] 26 (0, 0))) (.cells #[.int .i64 0, .slice none 0 0] 26 (0, 0)) (k := w.heap.size + 1) (by simp))
  have Hl := Lib.hid hl; have Hr := Lib.hid hr
  have hat : at_ ≤ n := by rw [← hl]; exact ha.1
  have C := Lib.hid (fun W (hx : Ext w W) => search_any W t A n c xs hl (by omega) (hr.ext hx) hF.2.2.2 at_ ha)
  have Cc := Lib.hid (fun W (hx : Ext w W) => check_any W p A n c xs hl (by omega) (hr.ext hx))
  have Hfe := Lib.hid (formE_yes hF); have Hm := Lib.hid (decide_eq_false hm)
  have hb : ((n : Int) == p) = false := by rw [beq_eq_false_iff_ne]; omega
  clear hl hr ha hm hF hnp
  go_enter Try.func9, Try.ntmps9
  go_wp2_with fail
  refine (toE_q (serial_any _ t)).mono ?_
  rintro e w1 ⟨rfl, hy1⟩
  rw [decide_eq_true hs]
  have KB1 := Lib.hid (blk_ext KB0.out hy1); have K1 := Lib.hid (blk_ext K0.out hy1)
  have hx1 : Ext w w1 := (((Ext.refl w).alloc _).alloc _).trans hy1
  have b0 := blk_cell KB1.out 0; have b1 := blk_cell KB1.out 1
  clear hy1 hs
  go_wp2_with fail
  refine (Cc.out w1 hx1).mono ?_
  rintro e w2 ⟨rfl, hy2⟩
  rw [Hfe.out]
  have KB2 := Lib.hid (blk_ext KB1.out hy2); have K2 := Lib.hid (blk_ext K1.out hy2)
  have hx2 := hx1.trans hy2
  clear b0 b1 hy2
  have b0 := blk_cell KB2.out 0; have b1 := blk_cell KB2.out 1
  go_wp2_with fail
  refine (C.out w2 hx2).mono ?_
  rintro e w3 ⟨rfl, hy3⟩
  rw [Hm.out]
  have KB3 := Lib.hid (blk_ext KB2.out hy3); have K3 := Lib.hid (blk_ext K2.out hy3)
  have hx3 := hx2.trans hy3
  clear b0 b1 hy3 C Cc
  have hs3 : w.heap.size + 2 ≤ w3.heap.size := by have := blk_lt K3.out; omega
  have b0 := blk_cell KB3.out 0; have b1 := blk_cell KB3.out 1
  have hne : w.heap.size ≠ w.heap.size + 1 := by omega
  have Hr3 := Lib.hid (show Rd w3.drew A (ivals xs) from Hr.out.ext hx3.drew)
  have Hr3a := Lib.hid (fun o : Obj => (show Rd (w3.alloc o).drew A (ivals xs) from (Hr.out.ext (hx3.alloc o).drew)))
  have hsd : w3.drew.heap.size = w3.heap.size := rfl
  have hn1000 : n ≤ 1000 := by omega
  have r0 : w3.cell? ⟨w.heap.size, 0, none⟩ = some (.int .i64 p) := b0
  have r1 : w3.cell? ⟨w.heap.size, 1, none⟩ = some (.slice A n c) := b1
  have d0 : w3.drew.cell? ⟨w.heap.size, 0, none⟩ = some (.int .i64 p) := b0
  have d1 : w3.drew.cell? ⟨w.heap.size, 1, none⟩ = some (.slice A n c) := b1
  go_upto_region 11 with fail
  go_region_held3 (fun w' => w'.cell? ⟨w.heap.size, 0, none⟩ = some (.int .i64 p) ∧ w'.cell? ⟨w.heap.size, 1, none⟩ = some (.slice A n c))
    (((try go_split_ands); refine ⟨?_, ?_⟩ <;> first | assumption | (with_reducible exact d0) | (with_reducible exact d1) | (with_reducible exact q0) | (with_reducible exact q1) | (with_reducible exact s0) | (with_reducible exact s1) | (with_reducible exact drew_cell (cell_past r0 _)) | (with_reducible exact drew_cell (cell_past r1 _)) | (with_reducible exact cell_past d0 _) | (with_reducible exact cell_past d1 _) | (with_reducible exact cell_past r0 _) | (with_reducible exact cell_past r1 _) | (with_reducible exact cell_past q0 _) | (with_reducible exact cell_past q1 _) | (with_reducible exact cell_other (cell_other s0 hne) hne) | (with_reducible exact cell_other (cell_other s1 hne) hne) | (with_reducible exact drew_cell (cell_other (cell_other s0 hne) hne)) | (with_reducible exact drew_cell (cell_other (cell_other s1 hne) hne))))
    (first
      | (go_at_call 28; refine (clone_any A n c xs _ Hl.out (by omega) (by first | exact Hr3.out | exact Hr3a.out _)).mono ?_; rintro e4 w4 ⟨A4, c4, rfl, ho4, hy4⟩; rw [Hl.out] at ho4 ⊢; have HO4 := Lib.hid ho4; have HY4 := Lib.hid hy4; have hx34 : Ext w3 w4 := (by first | exact ((Ext.refl w3).drew).trans hy4 | exact (((Ext.refl w3).alloc _).drew).trans hy4); have q0 := ext_cell hx34 r0; have q1 := ext_cell hx34 r1; clear ho4 hy4 hx34)
      | (go_at_call 27; (with_reducible refine (insert_b w3.drew w4 A4 n c4 at_ xs t Hl.out hn1000 hat HO4.out HY4.out).mono ?_); rintro e5 w5 ⟨A5, c5, rfl, ho5, hy5⟩; have HO5 := Lib.hid ho5; have hx35 : Ext w3 w5 := ((Ext.refl w3).drew).trans hy5; have s0 := ext_cell hx35 r0; have s1 := ext_cell hx35 r1; have KT5 := Lib.hid (blk_ext K3.out hx35); have u0 := blk_cell KT5.out 0; have u1 := blk_cell KT5.out 1; have v0 := blk_frozen KT5.out 0; have v1 := blk_frozen KT5.out 1; clear ho5 hy5)
      | (go_at_call 27; (with_reducible refine (insert_a w3 w4 A4 n c4 at_ xs t Hl.out hn1000 hat (own_undrew HO4.out) (ext_undrew HY4.out)).mono ?_); rintro e5 w5 ⟨A5, c5, rfl, ho5, hy5⟩; have HO5 := Lib.hid ho5; have hx35 : Ext w3 w5 := hy5; have s0 := ext_cell hx35 r0; have s1 := ext_cell hx35 r1; have KT5 := Lib.hid (blk_ext K3.out hx35); have u0 := blk_cell KT5.out 0; have u1 := blk_cell KT5.out 1; have v0 := blk_frozen KT5.out 0; have v1 := blk_frozen KT5.out 1; clear ho5 hy5))
  all_goals
    go_wp2_with fail
    refine bodyPost_ret (ret_sem rfl rfl (row2 KT5.out _ _)) rfl ?_
    exact ⟨A5, c5, rfl, own_base (own_row2 (own_base (base' := w.heap.size + 2) HO5.out (by omega)) (by omega) _ _) (by omega), ext_row2 (hx3.trans hx35) (by omega) _ _⟩
end Go.Proofs.Ytemnhnhpaaoccaa
