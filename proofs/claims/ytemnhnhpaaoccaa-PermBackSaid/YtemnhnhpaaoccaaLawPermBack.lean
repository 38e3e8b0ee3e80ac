/- PermBack answers true. -/
import Derived.Test.YtemnhnhpaaoccaaPermJ
import Derived.Test.YtemnhnhpaaoccaaFrame
namespace Go.Proofs.Ytemnhnhpaaoccaa
open Go.RowKit

set_option maxHeartbeats 8000000 in
set_option maxRecDepth 100000 in
theorem permBack_walk (w : World) (p : Int) (A : Option Addr) (n c : Nat) (xs : List Int) (hl : xs.length = n) (hr : Rd w A (xs.map (Value.int .i64))) (_hnc : n ≤ c) (hz : n ≤ 17592186043904) (x : Int) (_ : -9223372036854775808 ≤ x) (_ : x ≤ 9223372036854775807) (y : Int) (_ : -9223372036854775808 ≤ y) (_ : y ≤ 9223372036854775807) :
    Calls Try.prog 3 #[semaV p A n c, .int .i64 x, .int .i64 y] w (RetTrue w) := by
  have hr' : Rd w A (ivals xs) := hr
  obtain ⟨q, P, m, L, hT, hC⟩ := take_cases p x n xs hl (by omega)
  obtain ⟨q3, P3, m3, L3, hT3, hC3⟩ := take_cases p y n xs hl (by omega)
  have Hl := Lib.hid hl; have Hr := Lib.hid hr'; have HC := Lib.hid hC; have HC3 := Lib.hid hC3; have HT := Lib.hid hT; have HT3 := Lib.hid hT3
  clear hl hr hr' hC hC3 hT hT3
  go_enter Try.func3, Try.ntmps3
  go_wp2_with fail
  refine (permAwake _).mono ?_
  rintro e w1 ⟨rfl, hy1⟩
  have hx1 : Ext w w1 := ((Ext.refl w).alloc _).trans hy1
  have K1 := Lib.hid (blk_ext (blk_new w (.cells #[.int .i64 p, .slice A n c] 24 (0, 0))) hy1)
  clear hy1
  have s0 := blk_cell K1.out 0; have s1 := blk_cell K1.out 1
  go_wp2_with fail
  refine (of_any w1 p A n c xs Hl.out (by omega) (Hr.out.ext hx1)).mono ?_
  rintro e w2 ⟨A2, c2, rfl, ho2, hy2⟩
  have R2 := Lib.hid (rd_takeI (Rd.of_own ho2))
  have hx2 := hx1.trans hy2
  have K2 := Lib.hid (blk_ext K1.out hy2)
  obtain ⟨h2, hh2⟩ : ∃ h, w2.heap.size = h := ⟨_, rfl⟩
  clear s0 s1 ho2 hy2 K1
  go_wp2_with fail
  refine (HC.out _ A2 c2 (R2.out.alloc _)).mono ?_
  rintro e w3 ⟨A3, c3, rfl, ho3, hy3⟩
  have KA3 := Lib.hid (blk_ext (blk_newk w2 (.cells #[.int .i64 p, .slice A2 n c2] 26 (0, 0)) hh2) hy3)
  have hx23 : Ext w2 w3 := ((Ext.refl w2).alloc _).trans hy3
  have hx3 := hx2.trans hx23
  have hL3 := Lib.hid (retS_len ho3)
  have R3 := Lib.hid (Rd.of_own ho3)
  have K3 := Lib.hid (blk_ext K2.out hx23)
  obtain ⟨h3, hh3⟩ : ∃ h, w3.heap.size = h := ⟨_, rfl⟩
  clear ho3 hy3 K2
  rcases HT.out with ⟨hq, rfl, rfl, rfl, _⟩ | ⟨rfl, rfl, rfl, hsx, hF, hxn, hnp, k, hk, rfl⟩
  · have hq' : (q != 0) = true := by simp [bne, hq]
    clear HT HT3
    go_wp2_with fail
    go_ret
    exact retTrue (hx3.alloc _)
  · have hFB := ins_form Hl.out hF hsx hxn hk hnp
    obtain ⟨q2, P2, m2, L2, hT2, hC2⟩ := take_cases P y (n + 1) (insL xs k x) hL3.out (by omega)
    have G := Lib.hid (fun W (hx : Ext w3 W) => give_ok W P x A3 (n + 1) c3 k (insL xs k x) hL3.out (R3.out.ext hx) hFB (at_ins hk) (mem_insL.2 (.inl rfl)))
    have hdel : delL (insL xs k x) k = xs := del_ins hk.1
    rw [hdel] at G
    have HC2 := Lib.hid hC2; have HT2 := Lib.hid hT2
    have HF := Lib.hid hF; have HFB := Lib.hid hFB; have Hk := Lib.hid hk; have Hxn := Lib.hid hxn; have Hsx := Lib.hid hsx
    clear hdel hC2 hT2 hF hFB hk hxn hsx HT
    go_wp2_with fail
    refine (G.out _ ((Ext.refl w3).alloc _)).mono ?_
    rintro e w4 ⟨A4, c4, rfl, ho4, hy4⟩
    rw [Nat.add_sub_cancel] at ho4 ⊢
    have R4 := Lib.hid (Rd.of_own ho4)
    have KB4 := Lib.hid (blk_ext (blk_newk w3 (.cells #[.int .i64 P, .slice A3 (n + 1) c3] 26 (0, 0)) hh3) hy4)
    have hx34 : Ext w3 w4 := ((Ext.refl w3).alloc _).trans hy4
    have K4 := Lib.hid (blk_ext K3.out hx34); have KA4 := Lib.hid (blk_ext KA3.out hx34)
    have hx4 := hx3.trans hx34
    clear ho4 hy4 K3 KA3 G
    have s0 := cell_past (blk_cell K4.out 0); have s1 := cell_past (blk_cell K4.out 1)
    go_wp2_with fail
    refine (permSame_any _ P P A4 A n c4 n c xs xs Hl.out Hl.out (by omega) (R4.out.alloc _) ((Hr.out.ext hx4).alloc _)).mono ?_
    rintro e w5 ⟨rfl, hy5⟩
    rw [show decide (P = P ∧ xs = xs) = true by simp]
    have hx45 : Ext w4 w5 := ((Ext.refl w4).alloc _).trans hy5
    have KA5 := Lib.hid (blk_ext KA4.out hx45); have KB5 := Lib.hid (blk_ext KB4.out hx45)
    have hx5 := hx4.trans hx45
    clear s0 s1 hy5 K4 KA4 KB4
    have b0 := blk_cell KB5.out 0; have b1 := blk_cell KB5.out 1
    go_wp2_with fail
    refine (HC2.out w5 A3 c3 (R3.out.ext (hx34.trans hx45))).mono ?_
    rintro e w6 ⟨A6, c6, rfl, ho6, hy6⟩
    have hL6 := Lib.hid (retS_len ho6)
    have R6 := Lib.hid (Rd.of_own ho6)
    have KA6 := Lib.hid (blk_ext KA5.out hy6)
    have hx6 := hx5.trans hy6
    obtain ⟨h6, hh6⟩ : ∃ h, w6.heap.size = h := ⟨_, rfl⟩
    clear b0 b1 ho6 KA5 KB5
    have a0 := cell_past (blk_cell KA6.out 0); have a1 := cell_past (blk_cell KA6.out 1)
    go_wp2_with fail
    refine (HC3.out _ A2 c2 ((R2.out.ext ((hx23.trans hx34).trans (hx45.trans hy6))).alloc _)).mono ?_
    rintro e w7 ⟨A7, c7, rfl, ho7, hy7⟩
    have hL7 := Lib.hid (retS_len ho7)
    have R7 := Lib.hid (Rd.of_own ho7)
    have KP7 := Lib.hid (blk_ext (blk_newk w6 (.cells #[.int .i64 P2, .slice A6 m2 c6] 26 (0, 0)) hh6) hy7)
    have hx67 : Ext w6 w7 := ((Ext.refl w6).alloc _).trans hy7
    have hx7 := hx6.trans hx67
    obtain ⟨h7, hh7⟩ : ∃ h, w7.heap.size = h := ⟨_, rfl⟩
    clear a0 a1 ho7 hy7 KA6
    rcases HT2.out with ⟨hq2, rfl, rfl, rfl, _⟩ | ⟨rfl, rfl, rfl, hsy, _, hyn, hnp2, k2, hk2, rfl⟩
    · have hq2' : (q2 != 0) = true := by simp [bne, hq2]
      clear HT2 HT3
      go_wp2_with fail
      go_ret
      exact retTrue (hx7.alloc _)
    · have hyn' : y ≠ x ∧ y ∉ xs := by
        rw [mem_insL] at hyn
        exact ⟨fun h => hyn (.inl h), fun h => hyn (.inr h)⟩
      have h3 : q3 = 0 ∧ P3 = P2 ∧ m3 = n + 1 ∧ ∃ k3, At xs y k3 ∧ L3 = insL xs k3 y := by
        rcases HT3.out with ⟨_, _, _, _, h⟩ | ⟨h1, h2, h3, _, _, _, _, k3, h4, h5⟩
        · rcases h with ⟨_, h⟩ | ⟨_, _, h⟩ | ⟨_, _, _, h⟩ | ⟨_, _, _, _, h⟩
          · exact absurd hsy h
          · exact absurd HF.out h
          · exact absurd h hyn'.2
          · omega
        · exact ⟨h1, h2, h3, k3, h4, h5⟩
      obtain ⟨rfl, rfl, rfl, k3, hk3, rfl⟩ := h3
      have hFQ := ins_form Hl.out HF.out hsy hyn'.2 hk3 hnp
      obtain ⟨d, hd⟩ := at_some hFQ.2.2.2 x
      have hxQ : x ∉ insL xs k3 y := by
        rw [mem_insL]
        rintro (h | h)
        · exact hyn'.1 h.symm
        · exact Hxn.out h
      have hii := ins_ins HF.out.2.2.2 Hsx.out hsy Hk.out hk2 hk3 hd Hxn.out hyn
      have T := Lib.hid (fun W (hx : Ext w7 W) => take_ok W P3 x A7 (n + 1) c7 d (insL xs k3 y) hL7.out (R7.out.ext hx) Hsx.out hFQ hd hxQ (by omega))
      rw [← hii] at T
      have HB := Lib.hid hL6.out
      clear hii hxQ hd hFQ hk3 hyn hyn' hsy hk2 HT2 HT3 HC2 HC3 HC
      go_wp2_with fail
      refine (T.out _ ((Ext.refl w7).alloc _)).mono ?_
      rintro e w8 ⟨A8, c8, rfl, ho8, hy8⟩
      have R8 := Lib.hid (Rd.of_own ho8)
      have hL8 := Lib.hid (retS_len ho8)
      have hx78 : Ext w7 w8 := ((Ext.refl w7).alloc _).trans hy8
      have KP8 := Lib.hid (blk_ext KP7.out hx78)
      have hx8 := hx7.trans hx78
      clear ho8 hy8 T
      have p0 := cell_past (blk_cell KP8.out 0); have p1 := cell_past (blk_cell KP8.out 1)
      have S := Lib.hid (fun o : Obj => toE_q (sameI_any A8 A6 (n + 1 + 1) c8 (n + 1 + 1) c6 _ _ (w8.alloc o) hL8.out HB.out (by omega) (R8.out.alloc o) ((R6.out.ext (hx67.trans hx78)).alloc o)))
      rw [show same (insL (insL xs k x) k2 y) (insL (insL xs k x) k2 y) = true from decide_eq_true rfl] at S
      go_wp2_with fail
      refine (S.out _).mono ?_
      rintro e w9 ⟨rfl, hy9⟩
      go_wp2_with fail
      go_ret
      exact retTrue ((hx8.alloc _).trans hy9)
end Go.Proofs.Ytemnhnhpaaoccaa
