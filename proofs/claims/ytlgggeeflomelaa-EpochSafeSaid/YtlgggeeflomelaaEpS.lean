/- spigotref13: SameInts; spigotlaw13: awake. -/
import Derived.Test.YtlgggeeflomelaaEpO
import Derived.Outline
import Derived.BigQuiet
import Derived.WalkLawsBesides
namespace Go.Proofs.Ytlgggeeflomelaa
open Go.RowKit

/-- only draws -/
def RetQ (v : Value) (w : World) (e : Ending) (w' : World) : Prop := e = .returned v ∧ ∃ q, w' = w.drewN q
def same (xs ys : List Int) : Bool := decide (xs = ys)

theorem sameN_len (A B : Option Addr) (n c m d : Nat) (w : World) (h : n ≠ m) :
    Calls Try.prog 21 #[.slice A n c, .slice B m d] w (RetQ (.bool false) w) := by
  go_enter Try.func21, Try.ntmps21
  go_wp2
  go_ret
  exact ⟨rfl, 0, rfl⟩
set_option maxHeartbeats 400000 in
theorem sameN_any' (A B : Option Addr) (n c d : Nat) (xs ys : List Int) (w : World) (hl : xs.length = n) (hl' : ys.length = n) (hn : n ≤ 9223372036854775807) (hr : Rd w A (ivals xs)) (hr' : Rd w B (ivals ys)) :
    Calls Try.prog 21 #[.slice A n c, .slice B n d] w (RetQ (.bool (same xs ys)) w) := by
  have Hl := Lib.hid hl; have Hr := Lib.hid hr; have Hl' := Lib.hid hl'; have Hr' := Lib.hid hr'; clear hl hr hl' hr'
  go_enter Try.func21, Try.ntmps21
  go_wp2
  go_loopw [13] (fun i wr => ∃ k q : Nat, k ≤ n ∧ i = .int .i64 k ∧ wr = w.drewN q ∧ xs.take k = ys.take k) (fun i _ => n - (intOf i).toNat)
  case atStart => exact ⟨0, 0, Nat.zero_le _, rfl, rfl, rfl⟩
  case round =>
    obtain ⟨k, q, hk, rfl, rfl, htk⟩ := hrel
    have Htk := Lib.hid htk; clear htk
    by_cases hlt : k < n
    · obtain ⟨x, hx⟩ : ∃ x, Hid (xs.getD k 0 = x) := ⟨_, rfl⟩
      obtain ⟨y, hy⟩ : ∃ y, Hid (ys.getD k 0 = y) := ⟨_, rfl⟩
      obtain ⟨b, off, hA, _, hc⟩ := Hr.out.atI (j := k) (by rw [Hl.out]; exact hlt)
      obtain ⟨b', off', hA', _, hc'⟩ := Hr'.out.atI (j := k) (by rw [Hl'.out]; exact hlt)
      rw [hx.out] at hc; rw [hy.out] at hc'
      subst hA hA'
      by_cases hxy : x = y
      · subst hxy
        go_wp2
        go_quiet (fail)
        go_wp2
        go_roundw
        case rel => exact ⟨k + 1, _, by omega, by go_num, rfl, by rw [take_succI (by rw [Hl.out]; exact hlt), take_succI (by rw [Hl'.out]; exact hlt), Htk.out, hx.out, hy.out]⟩
        case measure => simp [intOf]; omega
      · go_wp2
        go_quiet (fail)
        go_wp2
        go_ret
        exact ⟨ret_bool (Eq.symm (decide_eq_false (by rintro rfl; exact hxy (hx.out.symm.trans hy.out)))), q + nq, drewN_add w q nq⟩
    · go_wp2
      go_ret
      exact ⟨ret_bool (Eq.symm (decide_eq_true (by have h := Htk.out; rwa [List.take_of_length_le (by rw [Hl.out]; omega), List.take_of_length_le (by rw [Hl'.out]; omega)] at h))), q, rfl⟩
theorem sameN_any (A B : Option Addr) (n c m d : Nat) (xs ys : List Int) (w : World) (hl : xs.length = n) (hl' : ys.length = m) (hn : n ≤ 9223372036854775807) (hr : Rd w A (ivals xs)) (hr' : Rd w B (ivals ys)) :
    Calls Try.prog 21 #[.slice A n c, .slice B m d] w (RetQ (.bool (same xs ys)) w) := by
  by_cases h : n = m
  · subst h
    exact sameN_any' A B n c d xs ys w hl hl' hn hr hr'
  · have e : same xs ys = false := decide_eq_false (by rintro rfl; omega)
    rw [e]
    exact sameN_len A B n c m d w h
theorem own_rd {w : World} {base : Nat} {e : TypeId} {B : Option Addr} {n c : Nat} {xs : List Value} (h : w.ownsRow base e 1 (.slice B n c) n xs) : Rd w B xs := by
  intro hne
  have hl := h.1
  rw [Nat.mul_one] at hl
  have hp : 0 < n := by
    rcases Nat.eq_zero_or_pos n with e | e
    · subst e; exact absurd (List.eq_nil_of_length_eq_zero hl) hne
    · exact e
  obtain ⟨q, rfl, _, _⟩ := own_block h hp
  exact ⟨q, 0, rfl, fun j u hu => by rw [Nat.zero_add, h.cellAt j (by have := (List.getElem?_eq_some_iff.1 hu).1; omega)]; exact hu⟩
def beg (s : ESt) (who op : Nat) (thing : Int) : ESt := s.put who { s.wk who with call := .begun op thing }
def aw1 : ESt × ERes := eRun 2 0 100 (beg eInit 0 3 7)
def aw2 : ESt × ERes := eRun 2 1 100 (beg aw1.1 1 4 0)
def aw3 : ESt × ERes := eRun 2 1 100 (beg aw2.1 1 4 0)
def aw4 : ESt × ERes := eRun 2 0 100 (beg aw3.1 0 5 0)
theorem aw1_r : aw1.2 = ⟨true, 0, 0, []⟩ := by kernel_rfl
theorem aw2_r : aw2.2 = ⟨true, 0, 1, []⟩ := by kernel_rfl
theorem aw3_r : aw3.2 = ⟨true, 0, 2, []⟩ := by kernel_rfl
theorem aw4_r : aw4.2 = ⟨true, 0, 1, [7]⟩ := by kernel_rfl
theorem aw1_s : startErr eInit 0 3 = 0 := by kernel_rfl
theorem aw2_s : startErr aw1.1 1 4 = 0 := by kernel_rfl
theorem aw3_s : startErr aw2.1 1 4 = 0 := by kernel_rfl
theorem aw4_s : startErr aw3.1 0 5 = 0 := by kernel_rfl
theorem erun_lit (w0 w : World) (F : Nat → Prop) (gx n k who op : Nat) (thing whoi opi : Int) (s : ESt) (h : EpIn w0 F gx n k s w) (hwi : whoi = (who : Int)) (hoi : opi = (op : Int)) (hw : who < n) (h1 : 1 ≤ op) (h5 : op ≤ 5) (he : startErr s who op = 0) (hk : k ≤ 50000) :
    Calls Try.prog 20 #[.pointer (some ⟨gx, 0, none⟩), .int .i64 whoi, .int .u8 opi, .int .i64 thing] w (StepIn w0 w F gx n (k + 100) (eRun n who 100 (beg s who op thing)) (.bool true)) := by
  subst hwi hoi
  exact erun_ok w0 w F gx n k who op thing s h hw h1 h5 he hk
/-- behind a run: the result is told -/
theorem runin {w0 w : World} {F : Nat → Prop} {gx n k : Nat} {p : ESt × ERes} {last : Value} {d : Bool} {er nu : Nat} {xs : List Int} (hp : p.2 = ⟨d, er, nu, xs⟩) {e : Ending} {w' : World} (h : StepIn w0 w F gx n k p last e w') :
    ∃ A m q F', e = .returned (.tuple #[.agg #[.bool d, .int .i64 (er : Int), .int .i64 (nu : Int), .slice A m q], last]) ∧ EpIn w0 F' gx n k p.1 w' ∧ GB w w' F ∧ (∀ i, F' i → F i ∨ w.heap.size ≤ i) ∧ ThOk w w' F' A m q xs := by
  obtain ⟨A, m, q, F', h1, h2⟩ := h
  rw [hp] at h1 h2
  exact ⟨A, m, q, F', h1, h2⟩
set_option maxHeartbeats 4000000 in
set_option maxRecDepth 100000 in
theorem epAwake (w : World) : Calls Try.prog 13 #[] w fun e w' => e = .returned (.bool true) ∧ Ext w w' := by
  go_enter Try.func13, Try.ntmps13
  go_wp2_with fail
  refine (ein_new 2 w w (Ext.refl w) (by omega) (by omega)).mono ?_
  rintro e w1 ⟨gx, F1, rfl, h1, _, _⟩
  have R1 := Lib.hid (erun_lit w w1 F1 gx 2 0 0 3 7 0 3 eInit h1 rfl rfl (by omega) (by omega) (by omega) aw1_s (by omega))
  clear h1
  go_wp2_with fail
  refine R1.out.mono ?_
  intro e w2 hr
  obtain ⟨A1, m1, q1, F2, rfl, i2, g2, f2, t2⟩ := runin aw1_r hr
  obtain ⟨W2, hW2⟩ : ∃ W2, w2.alloc (.cells #[.bool true, .int .i64 0, .int .i64 0, .slice A1 m1 q1] 36) = W2 := ⟨_, rfl⟩
  have x2 : Ext w2 W2 := by rw [← hW2]; exact (Ext.refl w2).alloc _
  have B2 := Lib.hid (show W2.heap[w2.heap.size]? = some (.cells #[.bool true, .int .i64 0, .int .i64 0, .slice A1 m1 q1] 36 (0, 0)) by rw [← hW2]; exact blk_new w2 _)
  have n2 : ¬ F2 w2.heap.size := fun e => Nat.lt_irrefl _ (i2.lt _ e)
  have R2 := Lib.hid (erun_lit w W2 F2 gx 2 100 1 4 0 1 4 aw1.1 (i2.ext x2) rfl rfl (by omega) (by omega) (by omega) aw2_s (by omega))
  have I2 := Lib.hid i2
  clear hr i2 g2 f2 t2
  go_wp2_with fail
  (try rw [hW2])
  clear hW2
  refine R2.out.mono ?_
  intro e w3 hr
  obtain ⟨A2, m2, q2, F3, rfl, i3, g3, f3, t3⟩ := runin aw2_r hr
  obtain ⟨W3, hW3⟩ : ∃ W3, w3.alloc (.cells #[.bool true, .int .i64 0, .int .i64 1, .slice A2 m2 q2] 36) = W3 := ⟨_, rfl⟩
  have x3 : Ext w3 W3 := by rw [← hW3]; exact (Ext.refl w3).alloc _
  have B3 := Lib.hid (show W3.heap[w3.heap.size]? = some (.cells #[.bool true, .int .i64 0, .int .i64 1, .slice A2 m2 q2] 36 (0, 0)) by rw [← hW3]; exact blk_new w3 _)
  have B23 := Lib.hid (blk_ext (g3.blk B2.out n2) x3)
  have n3 : ¬ F3 w3.heap.size := fun e => Nat.lt_irrefl _ (i3.lt _ e)
  have n23 : ¬ F3 w2.heap.size := fun e => (f3 _ e).elim n2 (fun e => by have := blk_lt B2.out; omega)
  have R3 := Lib.hid (erun_lit w W3 F3 gx 2 200 1 4 0 1 4 aw2.1 (i3.ext x3) rfl rfl (by omega) (by omega) (by omega) aw3_s (by omega))
  clear hr i3 g3 f3 t3
  go_wp2_with fail
  (try rw [hW3])
  clear hW3
  refine R3.out.mono ?_
  intro e w4 hr
  obtain ⟨A3, m3, q3, F4, rfl, i4, g4, f4, t4⟩ := runin aw3_r hr
  obtain ⟨W4, hW4⟩ : ∃ W4, w4.alloc (.cells #[.bool true, .int .i64 0, .int .i64 2, .slice A3 m3 q3] 36) = W4 := ⟨_, rfl⟩
  have x4 : Ext w4 W4 := by rw [← hW4]; exact (Ext.refl w4).alloc _
  have B4 := Lib.hid (show W4.heap[w4.heap.size]? = some (.cells #[.bool true, .int .i64 0, .int .i64 2, .slice A3 m3 q3] 36 (0, 0)) by rw [← hW4]; exact blk_new w4 _)
  have B24 := Lib.hid (blk_ext (g4.blk B23.out n23) x4)
  have B34 := Lib.hid (blk_ext (g4.blk B3.out n3) x4)
  have n4 : ¬ F4 w4.heap.size := fun e => Nat.lt_irrefl _ (i4.lt _ e)
  have n24 : ¬ F4 w2.heap.size := fun e => (f4 _ e).elim n23 (fun e => by have := blk_lt B23.out; omega)
  have n34 : ¬ F4 w3.heap.size := fun e => (f4 _ e).elim n3 (fun e => by have := blk_lt B3.out; omega)
  have R4 := Lib.hid (erun_lit w W4 F4 gx 2 300 0 5 0 0 5 aw3.1 (i4.ext x4) rfl rfl (by omega) (by omega) (by omega) aw4_s (by omega))
  clear hr i4 g4 f4 t4
  go_wp2_with fail
  (try rw [hW4])
  clear hW4
  refine R4.out.mono ?_
  intro e w5 hr
  obtain ⟨A4, m4, q4, F5, rfl, i5, g5, f5, t5⟩ := runin aw4_r hr
  obtain ⟨W5, hW5⟩ : ∃ W5, w5.alloc (.cells #[.bool true, .int .i64 0, .int .i64 1, .slice A4 m4 q4] 36) = W5 := ⟨_, rfl⟩
  have x5 : Ext w5 W5 := by rw [← hW5]; exact (Ext.refl w5).alloc _
  have B5 := Lib.hid (show W5.heap[w5.heap.size]? = some (.cells #[.bool true, .int .i64 0, .int .i64 1, .slice A4 m4 q4] 36 (0, 0)) by rw [← hW5]; exact blk_new w5 _)
  have c2 := blk_cell (blk_ext (g5.blk B24.out n24) x5) 2
  have c3 := blk_cell (blk_ext (g5.blk B34.out n34) x5) 2
  have c4 := blk_cell (blk_ext (g5.blk B4.out n4) x5) 2
  have c5 := blk_cell B5.out 2
  have c53 := blk_cell B5.out 3
  have hm4 : m4 = 1 := by have := t5.1.1; rw [ivals_len] at this; simpa using this.symm
  have HR := Lib.hid ((own_rd t5.1).ext x5)
  have HX := Lib.hid (i5.out.trans x5)
  subst hm4
  clear hr i5 g5 f5 t5
  go_wp2_with fail
  (try rw [hW5])
  clear hW5
  refine (sameN_any A4 (some ⟨W5.heap.size, 0, none⟩) 1 q4 1 1 [7] [7] _ rfl rfl (by omega) (HR.out.ext ((Ext.refl W5).alloc _)) (rd_newk W5 [.int .i64 7] _ rfl)).mono ?_
  rintro e w6 ⟨rfl, nq, rfl⟩
  go_wp2_with fail
  go_ret
  exact ⟨rfl, (HX.out.alloc _).drewN nq⟩
end Go.Proofs.Ytlgggeeflomelaa
