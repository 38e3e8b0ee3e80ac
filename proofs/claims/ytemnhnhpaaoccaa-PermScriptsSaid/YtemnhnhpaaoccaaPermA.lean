/- perm: serial, Check; the document's Check, Has; slices: BinarySearch, Index, Contains, Clone. -/
import Derived.Test.YtemnhnhpaaoccaaInts
import Derived.Test.YtemnhnhpaaoccaaBlk
import Derived.Test.YtemnhnhpaaoccaaOwnI
namespace Go.Proofs.Ytemnhnhpaaoccaa
open Go.RowKit

theorem serial_any (w : World) (n : Int) : Calls Try.prog 25 #[.int .i64 n] w (RetQ (.bool (decide (Ser n))) w) := by
  by_cases h1 : 1 ≤ n
  · by_cases h2 : n ≤ 4611686018427387903
    · go_enter Try.func25, Try.ntmps25
      go_wp2_with fail
      go_ret
      exact ⟨ret_bool (decide_eq_true (show Ser n from ⟨h1, h2⟩)).symm, 0, rfl⟩
    · go_enter Try.func25, Try.ntmps25
      go_wp2_with fail
      go_ret
      exact ⟨ret_bool (decide_eq_false (show ¬ Ser n from fun h => by have := h.2; omega)).symm, 0, rfl⟩
  · go_enter Try.func25, Try.ntmps25
    go_wp2_with fail
    go_ret
    exact ⟨ret_bool (decide_eq_false (show ¬ Ser n from fun h => by have := h.1; omega)).symm, 0, rfl⟩
open Classical in
/-- the code that tells of form -/
noncomputable def formE (p : Int) (xs : List Int) : Int := if Form p xs then 0 else 3
theorem formE_yes {p : Int} {xs : List Int} (h : Form p xs) : formE p xs = 0 := if_pos h
theorem formE_no {p : Int} {xs : List Int} (h : ¬ Form p xs) : formE p xs = 3 := if_neg h
/-- what has been looked at -/
theorem form_no_at {p : Int} {xs : List Int} {k : Nat} (hk : k < xs.length) (h : ¬ okAt xs k) : formE p xs = 3 := formE_no fun hf => h (hf.2.2.2 k hk)
set_option maxHeartbeats 1000000 in
theorem check_any (w : World) (p : Int) (A : Option Addr) (n c : Nat) (xs : List Int) (hl : xs.length = n) (_hn : n ≤ 17592186044416) (hr : Rd w A (ivals xs)) :
    Calls Try.prog 21 #[.agg #[.int .i64 p, .slice A n c]] w (RetE (.int .i64 (formE p xs)) w) := by
  by_cases hp : p < 1 ∨ 64 < p ∨ p < n
  · have e : formE p xs = 3 := formE_no fun hf => by obtain ⟨h1, h2, h3, _⟩ := hf; omega
    rw [e]
    by_cases h1 : p < 1
    · clear hp
      go_enter Try.func21, Try.ntmps21
      go_wp2_with fail
      go_ret
      exact ⟨rfl, (Ext.refl w).alloc _⟩
    · have h1' : ¬ p < 1 := h1
      by_cases h2 : 64 < p
      · clear hp
        go_enter Try.func21, Try.ntmps21
        go_wp2_with fail
        go_ret
        exact ⟨rfl, (Ext.refl w).alloc _⟩
      · have h3 : p < (n : Int) := by omega
        clear hp
        go_enter Try.func21, Try.ntmps21
        go_wp2_with fail
        go_ret
        exact ⟨rfl, (Ext.refl w).alloc _⟩
  · have h1 : ¬ p < 1 := by omega
    have h2 : ¬ 64 < p := by omega
    have h3 : ¬ p < (n : Int) := by omega
    have Hl := Lib.hid hl; have Hr := Lib.hid (hr.alloc (.cells #[.int .i64 p, .slice A n c] 26 (0, 0))); clear hl hr hp
    go_enter Try.func21, Try.ntmps21
    go_wp2_with fail
    go_loopw [3, 25] (fun v i wr => ∃ k q : Nat, k ≤ n ∧ i = .int .i64 (k : Int) ∧ wr = (w.alloc (.cells #[.int .i64 p, .slice A n c] 26 (0, 0))).drewN q ∧ (∀ j, j < k → okAt xs j) ∧ v = .int .i64 (if k = 0 then 0 else xs.getD (k - 1) 0)) (fun _ i _ => n - (intOf i).toNat)
    case atStart => exact ⟨0, 0, Nat.zero_le _, rfl, rfl, fun j hj => by omega, rfl⟩
    case round =>
      obtain ⟨k, q, hk, rfl, rfl, hok, rfl⟩ := hrel
      have Hok := Lib.hid hok; clear hok
      obtain ⟨last, Hlast⟩ : ∃ last, Hid ((if k = 0 then (0 : Int) else xs.getD (k - 1) 0) = last) := ⟨_, rfl⟩
      rw [Hlast.out]
      by_cases hlt : k < n
      · obtain ⟨b, off, hA, _, hc⟩ := (Hr.out.drewN q).atI (j := k) (by rw [Hl.out]; exact hlt)
        obtain ⟨x, Hx⟩ : ∃ x, Hid (xs.getD k 0 = x) := ⟨_, rfl⟩
        rw [Hx.out] at hc
        subst hA
        go_wp2_with fail
        refine (serial_any _ x).mono ?_
        rintro e w1 ⟨rfl, q2, rfl⟩
        by_cases hs : Ser x
        · rw [decide_eq_true hs]
          by_cases hle : x ≤ last
          · go_wp2_with fail
            go_ret
            refine ⟨ret_int (form_no_at (k := k) (by rw [Hl.out]; exact hlt) fun ho => ?_).symm, ((Ext.refl w).alloc _).drewN _⟩
            obtain ⟨o1, o2, o3⟩ := ho
            have h6 := Hlast.out
            rw [Hx.out] at o3
            by_cases hk0 : k = 0
            · rw [if_pos hk0] at h6; have := hs.1; omega
            · rw [if_neg hk0] at h6; have := o3 (by omega); omega
          · go_wp2_with fail
            go_roundw
            case rel =>
              refine ⟨k + 1, q + q2, by omega, by go_num, rfl, fun j hj => ?_, ?_⟩
              · by_cases e1 : j = k
                · rw [e1]
                  refine ⟨by rw [Hx.out]; exact hs.1, by rw [Hx.out]; exact hs.2, fun h0 => ?_⟩
                  have h6 := Hlast.out
                  rw [if_neg (by omega)] at h6
                  rw [Hx.out]; omega
                · exact Hok.out j (by omega)
              · rw [if_neg (by omega), Nat.add_sub_cancel, Hx.out]
            case measure => simp [intOf]; omega
        · rw [decide_eq_false hs]
          go_wp2_with fail
          go_ret
          exact ⟨ret_int (form_no_at (k := k) (by rw [Hl.out]; exact hlt) fun ho => hs ⟨by rw [← Hx.out]; exact ho.1, by rw [← Hx.out]; exact ho.2.1⟩).symm, ((Ext.refl w).alloc _).drewN _⟩
      · go_wp2_with fail
        go_ret
        refine ⟨ret_int (formE_yes ⟨by omega, by omega, by rw [Hl.out]; omega, fun j hj => Hok.out j (by rw [Hl.out] at hj; omega)⟩).symm, ((Ext.refl w).alloc _).drewN _⟩
end Go.Proofs.Ytemnhnhpaaoccaa
