/- the document's Put and Drop. -/
import Derived.Test.YtemnhnhpaaoccaaPermF
namespace Go.Proofs.Ytemnhnhpaaoccaa
open Go.RowKit

/-- what Put has laid behind j of them -/
def putL (xs : List Int) (k : Nat) (t : Int) (j : Nat) : List Int := if j ≤ k then xs.take j else (insL xs k t).take (j + 1)
theorem insL_at {xs : List Int} {k i : Nat} {t : Int} (hk : k ≤ xs.length) (hi : k ≤ i) : (insL xs k t).getD (i + 1) 0 = xs.getD i 0 := by
  have hl : (xs.take k).length = k := by simp; omega
  simp only [insL, List.getD_eq_getElem?_getD]
  rw [List.getElem?_append_right (by omega), hl]
  obtain ⟨j, rfl⟩ : ∃ j, i = k + j := ⟨i - k, by omega⟩
  rw [show k + j + 1 - k = j + 1 by omega, List.getElem?_cons_succ, List.getElem?_drop]
theorem putL_lt {xs : List Int} {k j : Nat} {t : Int} (hk : k ≤ xs.length) (h : j < k) : putL xs k t (j + 1) = putL xs k t j ++ [xs.getD j 0] := by
  unfold putL
  rw [if_pos (by omega), if_pos (by omega), take_succI (by omega)]
theorem putL_at {xs : List Int} {k : Nat} {t : Int} (hk : k < xs.length) : putL xs k t (k + 1) = (putL xs k t k ++ [t]) ++ [xs.getD k 0] := by
  have hl : (xs.take k).length = k := by simp; omega
  unfold putL
  rw [if_neg (by omega), if_pos (Nat.le_refl _), take_succI (by rw [insL_len t (by omega)]; omega), insL_at (by omega) (Nat.le_refl _)]
  congr 1
  have : insL xs k t = (xs.take k ++ [t]) ++ xs.drop k := by simp [insL]
  rw [this, List.take_left' (by simp; omega)]
theorem putL_gt {xs : List Int} {k j : Nat} {t : Int} (hk : k < j) (hj : j < xs.length) : putL xs k t (j + 1) = putL xs k t j ++ [xs.getD j 0] := by
  unfold putL
  rw [if_neg (by omega), if_neg (by omega), take_succI (by rw [insL_len t (by omega)]; omega), insL_at (by omega) (by omega)]
theorem putL_end {xs : List Int} {k : Nat} {t : Int} (hk : k < xs.length) : putL xs k t xs.length = insL xs k t := by
  unfold putL
  rw [if_neg (by omega), List.take_of_length_le (by rw [insL_len t (by omega)]; omega)]
theorem putL_last {xs : List Int} {t : Int} : putL xs xs.length t xs.length ++ [t] = insL xs xs.length t := by
  unfold putL insL
  rw [if_pos (Nat.le_refl _), List.drop_length]
set_option maxHeartbeats 4000000 in
set_option maxRecDepth 100000 in
theorem put_any (w : World) (t : Int) (A : Option Addr) (n c k : Nat) (xs : List Int) (hl : xs.length = n) (hn : n ≤ 1000) (hr : Rd w A (ivals xs)) (hk : At xs t k) (hm : t ∉ xs) :
    Calls Try.prog 24 #[.slice A n c, .int .i64 t] w fun e w' => ∃ A' c', e = .returned (.slice A' (n + 1) c') ∧ w'.ownsRow w.heap.size 2 1 (.slice A' (n + 1) c') (n + 1) (ivals (insL xs k t)) ∧ Ext w w' := by
  have hkn : k ≤ n := by rw [← hl]; exact hk.1
  have Hl := Lib.hid hl; have Hr := Lib.hid hr; have Hk := Lib.hid hk; have Hm := Lib.hid hm
  clear hl hr hk hm
  go_enter Try.func24, Try.ntmps24
  go_wp2_with fail
  go_loopw [5, 6, 11] (fun l pt i wr => ∃ (j m : Nat) (A' : Option Addr) (c' : Nat), j ≤ n ∧ i = .int .i64 (j : Int) ∧ m ≤ j + 1 ∧ l = .slice A' m c' ∧ pt = .bool (decide (k < j)) ∧ wr.ownsRow w.heap.size 2 1 (.slice A' m c') m (ivals (putL xs k t j)) ∧ Ext w wr) (fun _ _ i _ => n - (intOf i).toNat)
  case atStart => exact ⟨0, 0, none, 0, Nat.zero_le _, rfl, by omega, rfl, bool_eq (decide_eq_false (by omega)).symm, by rw [show putL xs k t 0 = [] by simp [putL]]; exact World.ownsRow_nil _ _ _ _, Ext.refl w⟩
  case round =>
    obtain ⟨j, m, A', c', hj, rfl, hmj, rfl, rfl, ho, hx⟩ := hrel
    by_cases hlt : j < n
    · obtain ⟨b, off, hA, _, hc⟩ := (Hr.out.ext hx).atI (j := j) (by rw [Hl.out]; exact hlt)
      obtain ⟨x, Hx⟩ : ∃ x, Hid (xs.getD j 0 = x) := ⟨_, rfl⟩
      rw [Hx.out] at hc
      have hs : w.heap.size ≤ wr.heap.size := hx.size
      have J1 := Lib.hid (show j + 1 ≤ n by omega); have M1 := Lib.hid (show m + 1 ≤ j + 1 + 1 by omega)
      subst hA
      by_cases hjk : j < k
      · have hxt : ¬ (x > t) := by have := Hk.out.2.1 j hjk; rw [Hx.out] at this; omega
        have e1 := Lib.hid (putL_lt (t := t) (by rw [Hl.out]; exact hkn) hjk)
        rw [decide_eq_false (show ¬ k < j by omega)]
        have Hjk := Lib.hid hjk; clear hjk
        go_wp2_with (at_builtin; refine app_i64 _ rfl (.tmp 26) (.tmp 28) rfl w.heap.size rfl (ho.alloc _) rfl (m := 1) (news := [x]) rfl (rd_new _ [.int .i64 x] _) (by omega) (by rw [World.size_alloc]; omega) ?_; intro A1 c1 w1 hown1 hgrow1 _; have hx1 : Ext w w1 := (hx.alloc _).grown hgrow1 (own_ge ho))
        go_roundw
        case rel => exact ⟨j + 1, m + 1, A1, c1, J1.out, by go_num, M1.out, rfl, bool_eq (decide_eq_false (by have := Hjk.out; omega)).symm, by rw [e1.out, Hx.out]; exact hown1, hx1⟩
        case measure => simp [intOf]; omega
      · by_cases hjk2 : j = k
        · subst hjk2
          have hxt : x > t := by
            have h1 := Hk.out.2.2 j (Nat.le_refl _) (by rw [Hl.out]; exact hlt)
            have h2 : x ≠ t := fun e => Hm.out (mem_getD.2 ⟨j, by rw [Hl.out]; exact hlt, by rw [Hx.out, e]⟩)
            rw [Hx.out] at h1
            omega
          have e1 := Lib.hid (putL_at (xs := xs) (k := j) (t := t) (by rw [Hl.out]; exact hlt))
          have M2 := Lib.hid (show m + 1 + 1 ≤ j + 1 + 1 by have h1 := ho.1; rw [ivals_len, Nat.mul_one] at h1; unfold putL at h1; rw [if_pos (Nat.le_refl _), List.length_take] at h1; omega)
          rw [decide_eq_false (show ¬ j < j by omega)]
          clear hjk
          go_wp2_with (first
            | (at_builtin; refine app_i64 _ rfl (.tmp 22) (.tmp 24) rfl w.heap.size rfl (ho.alloc _) rfl (m := 1) (news := [t]) rfl (rd_new _ [.int .i64 t] _) (by omega) (by rw [World.size_alloc]; omega) ?_; intro A1 c1 w1 hown1 hgrow1 _; have hx1 : Ext w w1 := (hx.alloc _).grown hgrow1 (own_ge ho); have hs1 : w.heap.size ≤ w1.heap.size := hx1.size)
            | (at_builtin; refine app_i64 _ rfl (.tmp 26) (.tmp 28) rfl w.heap.size rfl (hown1.alloc _) rfl (m := 1) (news := [x]) rfl (rd_new _ [.int .i64 x] _) (by omega) (by rw [World.size_alloc]; omega) ?_; intro A3 c3 w3 hown3 hgrow3 _; have hx3 : Ext w w3 := (hx1.alloc _).grown hgrow3 (own_ge hown1)))
          go_roundw
          case rel => exact ⟨j + 1, m + 1 + 1, A3, c3, J1.out, by go_num, M2.out, rfl, bool_eq (decide_eq_true (by omega)).symm, by rw [e1.out, Hx.out]; exact hown3, hx3⟩
          case measure => simp [intOf]; omega
        · have hkj : k < j := by omega
          have hxt : x > t := by
            have h1 := Hk.out.2.2 j (by omega) (by rw [Hl.out]; exact hlt)
            have h2 : x ≠ t := fun e => Hm.out (mem_getD.2 ⟨j, by rw [Hl.out]; exact hlt, by rw [Hx.out, e]⟩)
            rw [Hx.out] at h1
            omega
          have e1 := Lib.hid (putL_gt (xs := xs) (k := k) (j := j) (t := t) hkj (by rw [Hl.out]; exact hlt))
          rw [decide_eq_true hkj]
          have Hkj := Lib.hid hkj; clear hjk hjk2 hkj
          go_wp2_with (at_builtin; refine app_i64 _ rfl (.tmp 26) (.tmp 28) rfl w.heap.size rfl (ho.alloc _) rfl (m := 1) (news := [x]) rfl (rd_new _ [.int .i64 x] _) (by omega) (by rw [World.size_alloc]; omega) ?_; intro A1 c1 w1 hown1 hgrow1 _; have hx1 : Ext w w1 := (hx.alloc _).grown hgrow1 (own_ge ho))
          go_roundw
          case rel => exact ⟨j + 1, m + 1, A1, c1, J1.out, by go_num, M1.out, rfl, bool_eq (decide_eq_true (by have := Hkj.out; omega)).symm, by rw [e1.out, Hx.out]; exact hown1, hx1⟩
          case measure => simp [intOf]; omega
    · obtain rfl : j = n := by omega
      have hs : w.heap.size ≤ wr.heap.size := hx.size
      have hml : (putL xs k t j).length = m := by have := ho.1; rw [ivals_len, Nat.mul_one] at this; exact this
      by_cases hkj : k < j
      · rw [decide_eq_true hkj]
        have e1 : putL xs k t j = insL xs k t := by rw [← Hl.out]; exact putL_end (by rw [Hl.out]; exact hkj)
        have hm1 : m = j + 1 := by rw [← hml, e1, insL_len t (by rw [Hl.out]; exact hkn), Hl.out]
        rw [e1] at ho
        clear hkj e1 hml
        subst hm1
        go_wp2_with fail
        go_ret
        exact ⟨A', c', rfl, ho, hx⟩
      · rw [decide_eq_false hkj]
        obtain rfl : k = j := by omega
        have e1 : putL xs k t k ++ [t] = insL xs k t := by have := Hl.out; subst this; exact putL_last
        have hm1 : m = k := by
          have h1 := congrArg List.length e1
          rw [List.length_append, hml, insL_len t (by rw [Hl.out]; exact Nat.le_refl _), Hl.out] at h1
          simp at h1
          omega
        subst hm1
        have E1 := Lib.hid e1
        clear hkj e1 hml hlt
        go_wp2_with (at_builtin; refine app_i64 _ rfl (.tmp 33) (.tmp 35) rfl w.heap.size rfl (ho.alloc _) rfl (m := 1) (news := [t]) rfl (rd_new _ [.int .i64 t] _) (by omega) (by rw [World.size_alloc]; omega) ?_; intro A1 c1 w1 hown1 hgrow1 _; have hx1 : Ext w w1 := (hx.alloc _).grown hgrow1 (own_ge ho))
        go_ret
        exact ⟨A1, c1, rfl, by rw [← E1.out]; exact hown1, hx1⟩
end Go.Proofs.Ytemnhnhpaaoccaa
