/- PermGives answers true. -/
import Derived.Test.YtemnhnhpaaoccaaPermN
import Derived.Test.YtemnhnhpaaoccaaFrame
namespace Go.Proofs.Ytemnhnhpaaoccaa
open Go.RowKit

theorem give_both (p t : Int) (n : Nat) (xs : List Int) (hl : xs.length = n) (hn : n ≤ 17592186044400) :
    ∃ (q P : Int) (m : Nat) (L : List Int), (∀ w A c, Rd w A (ivals xs) → Calls Try.prog 10 #[semaV p A n c, .int .i64 t] w (RetS P m L q w)) ∧ (∀ w A c, Rd w A (ivals xs) → Calls Try.prog 17 #[semaV p A n c, .int .i64 t] w (RetS P m L q w)) ∧ m ≤ n := by
  by_cases hF : Form p xs
  · by_cases hm : t ∈ xs
    · obtain ⟨k, hk⟩ := at_some hF.2.2.2 t
      exact ⟨0, p, n - 1, delL xs k, fun w A c hr => give_ok w p t A n c k xs hl hr hF hk hm, fun w A c hr => docGive_ok w p t A n c k xs hl hr hF hk hm, by omega⟩
    · exact ⟨11, 0, 0, [], fun w A c hr => give_err w p t A n c xs 11 hl (by omega) hr (.inr ⟨hF, hm, rfl⟩), fun w A c hr => docGive_err w p t A n c xs 11 hl (by omega) hr (.inr ⟨hF, hm, rfl⟩), by omega⟩
  · exact ⟨3, 0, 0, [], fun w A c hr => give_err w p t A n c xs 3 hl (by omega) hr (.inl ⟨hF, rfl⟩), fun w A c hr => docGive_err w p t A n c xs 3 hl (by omega) hr (.inl ⟨hF, rfl⟩), by omega⟩
set_option maxHeartbeats 8000000 in
set_option maxRecDepth 100000 in
theorem permGives_walk (w : World) (p : Int) (A : Option Addr) (n c : Nat) (xs : List Int) (hl : xs.length = n) (hr : Rd w A (xs.map (Value.int .i64))) (_hnc : n ≤ c) (hz : n ≤ 17592186043904) (x : Int) (_ : -9223372036854775808 ≤ x) (_ : x ≤ 9223372036854775807) :
    Calls Try.prog 5 #[semaV p A n c, .int .i64 x] w (RetTrue w) := by
  have hr' : Rd w A (ivals xs) := hr
  obtain ⟨q, P, m, L, hC, hD, hm⟩ := give_both p x n xs hl (by omega)
  have Hl := Lib.hid hl; have Hr := Lib.hid hr'; have HC := Lib.hid hC; have HD := Lib.hid hD
  obtain ⟨E, HE⟩ : ∃ E, Hid (formE p xs = E) := ⟨_, rfl⟩
  clear hl hr hr' hC hD
  go_enter Try.func5, Try.ntmps5
  go_wp2_with fail
  refine (of_any _ p A n c xs Hl.out (by omega) (Hr.out.alloc _)).mono ?_
  rintro e w1 ⟨A1, c1, rfl, ho1, hy1⟩
  have hc1 := own_cap ho1
  have F1 := Lib.hid (Rd.of_own ho1)
  have R1 := Lib.hid (rd_takeI (Rd.of_own ho1))
  have hx1 : Ext w w1 := ((Ext.refl w).alloc _).trans hy1
  have K1 := Lib.hid (blk_ext (blk_new w (.cells #[.int .i64 p, .slice A n c] 24 (0, 0))) hy1)
  obtain ⟨h1, hh1⟩ : ∃ h, w1.heap.size = h := ⟨_, rfl⟩
  clear ho1 hy1
  go_wp2_with fail
  refine (HC.out _ A1 c1 (R1.out.alloc _)).mono ?_
  rintro e w2 ⟨A2, c2, rfl, ho2, hy2⟩
  have hx12 : Ext w1 w2 := ((Ext.refl w1).alloc _).trans hy2
  have hL2 := Lib.hid (retS_len ho2)
  have R2 := Lib.hid (Rd.of_own ho2)
  have K2 := Lib.hid (blk_ext K1.out hx12)
  have KA2 := Lib.hid (blk_ext (blk_newk w1 (.cells #[.int .i64 p, .slice A1 n c1] 26 (0, 0)) hh1) hy2)
  have hx2 := hx1.trans hx12
  obtain ⟨h2, hh2⟩ : ∃ h, w2.heap.size = h := ⟨_, rfl⟩
  clear ho2 hy2 K1
  have s0 := cell_past (blk_cell K2.out 0); have s1 := cell_past (blk_cell K2.out 1)
  go_wp2_with fail
  refine (HD.out _ A c ((Hr.out.ext hx2).alloc _)).mono ?_
  rintro e w3 ⟨A3, c3, rfl, ho3, hy3⟩
  have hx23 : Ext w2 w3 := ((Ext.refl w2).alloc _).trans hy3
  have R3 := Lib.hid (Rd.of_own ho3)
  have K3 := Lib.hid (blk_ext K2.out hx23); have KA3 := Lib.hid (blk_ext KA2.out hx23)
  have KB3 := Lib.hid (blk_ext (blk_newk w2 (.cells #[.int .i64 P, .slice A2 m c2] 26 (0, 0)) hh2) hy3)
  have hx3 := hx2.trans hx23
  obtain ⟨h3, hh3⟩ : ∃ h, w3.heap.size = h := ⟨_, rfl⟩
  clear ho3 hy3 K2 KA2 s0 s1
  have a0 := cell_past (blk_cell KA3.out 0); have a1 := cell_past (blk_cell KA3.out 1)
  go_wp2_with fail
  refine (permHas_any _ p x A1 n c1 xs Hl.out (by omega) ((R1.out.ext (hx12.trans hx23)).alloc _)).mono ?_
  rintro e w4 ⟨hb, rfl, hb1, hb2, hy4⟩
  rw [HE.out]
  have Hb1 := Lib.hid hb1; have Hb2 := Lib.hid hb2
  have hx34 : Ext w3 w4 := ((Ext.refl w3).alloc _).trans hy4
  have KC4 := Lib.hid (blk_ext (blk_newk w3 (.cells #[.int .i64 P, .slice A3 m c3] 24 (0, 0)) hh3) hy4)
  have KA4 := Lib.hid (blk_ext KA3.out hx34)
  have hx4 := hx3.trans hx34
  clear hy4 a0 a1 hb1 hb2 KA3
  have a0 := blk_cell KA4.out 0; have a1 := blk_cell KA4.out 1
  go_wp2_with fail
  refine (permFree_any _ p A1 n c1 xs Hl.out (by omega) (R1.out.ext (hx12.trans (hx23.trans hx34)))).mono ?_
  rintro e w5 ⟨fr, rfl, hf1, hf2, hy5⟩
  rw [HE.out]
  have Hf1 := Lib.hid hf1; have Hf2 := Lib.hid hf2
  have K5 := Lib.hid (blk_ext K3.out (hx34.trans hy5))
  have hx5 := hx4.trans hy5
  clear a0 a1 hf1 hf2
  have s0 := blk_cell K5.out 0; have s1 := blk_cell K5.out 1
  go_wp2_with fail
  refine (refCheck_any _ p A n c xs Hl.out (by omega) (Hr.out.ext hx5)).mono ?_
  rintro e w6 ⟨rfl, hy6⟩
  rw [HE.out]
  have hx6 := hx5.trans hy6
  clear s0 s1
  go_wp2_with fail
  refine (permAwake _).mono ?_
  rintro e w7 ⟨rfl, hy7⟩
  have hx57 := hy6.trans hy7
  have hx47 := hy5.trans hx57
  have hx37 := hx34.trans hx47
  have K7 := Lib.hid (blk_ext K5.out hx57)
  have KA7 := Lib.hid (blk_ext KA4.out hx47)
  have KB7 := Lib.hid (blk_ext KB3.out hx37)
  have KC7 := Lib.hid (blk_ext KC4.out hx47)
  have hx7 := hx6.trans hy7
  clear K5 KA4 KB3 KC4 K3
  have b0 := blk_cell KB7.out 0; have b1 := blk_cell KB7.out 1
  have d0 := blk_cell KC7.out 0; have d1 := blk_cell KC7.out 1
  go_wp2_with fail
  refine (permSame_any w7 P P A2 A3 m c2 m c3 L L hL2.out hL2.out (by omega) (R2.out.ext (hx23.trans hx37)) (R3.out.ext hx37)).mono ?_
  rintro e w8 ⟨rfl, hy8⟩
  rw [show decide (P = P ∧ L = L) = true by simp]
  have K8 := Lib.hid (blk_ext K7.out hy8); have KA8 := Lib.hid (blk_ext KA7.out hy8)
  have hx8 := hx7.trans hy8
  clear b0 b1 d0 d1 K7 KA7 KB7 KC7
  have a0 := blk_cell KA8.out 0; have a1 := blk_cell KA8.out 1
  have hx18 := (hx12.trans hx23).trans (hx37.trans hy8)
  go_wp2_with fail
  refine (check_any w8 p A1 n c1 xs Hl.out (by omega) (R1.out.ext hx18)).mono ?_
  rintro e w9 ⟨rfl, hy9⟩
  rw [HE.out]
  have K9 := Lib.hid (blk_ext K8.out hy9)
  have hx9 := hx8.trans hy9
  clear a0 a1 KA8 K8
  have s0 := blk_cell K9.out 0; have s1 := blk_cell K9.out 1
  go_wp2_with fail
  refine (permKept w9 A1 A p n c1 c xs Hl.out (by omega) hc1 (F1.out.ext (hx18.trans hy9)) (Hr.out.ext hx9)).mono ?_
  rintro e w10 ⟨rfl, hy10⟩
  have K10 := Lib.hid (blk_ext K9.out hy10)
  have hx10 := hx9.trans hy10
  clear s0 s1 K9
  by_cases hF : Form p xs
  · have hE0 : E = 0 := by rw [← HE.out]; exact formE_yes hF
    have hb0 : hb = decide (x ∈ xs) := Hb1.out hF
    have hf0 : fr = p - (n : Int) := Hf1.out hF
    have hw : IntKind.i64.wrap (p - (n : Int)) = p - (n : Int) := by have := hF.1; have := hF.2.1; have := hF.2.2.1; rw [Hl.out] at this; rw [IntKind.wrap_i64]; omega
    subst hE0 hb0 hf0
    clear hF
    have s0 := blk_cell K10.out 0; have s1 := blk_cell K10.out 1
    go_wp2_with fail
    refine (toE_q (refHas_any w10 x A n c xs Hl.out (by omega) (Hr.out.ext hx10))).mono ?_
    rintro e w11 ⟨rfl, hy11⟩
    have K11 := Lib.hid (blk_ext K10.out hy11)
    have hx11 := hx10.trans hy11
    clear s0 s1 hy11
    have s0 := blk_cell K11.out 0; have s1 := blk_cell K11.out 1
    generalize decide (x ∈ xs) = bb
    go_wp2_with fail
    go_ret
    exact ⟨ret_bool (by simp), hx11⟩
  · have hE0 : E = 3 := by rw [← HE.out]; exact formE_no hF
    have hb0 : hb = false := Hb2.out hF
    have hf0 : fr = 0 := Hf2.out hF
    subst hE0 hb0 hf0
    clear hF
    go_wp2_with fail
    go_ret
    exact retTrue hx10
end Go.Proofs.Ytemnhnhpaaoccaa
