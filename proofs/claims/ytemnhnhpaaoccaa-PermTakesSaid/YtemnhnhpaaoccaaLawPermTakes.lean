/- PermTakes answers true. -/
import Derived.Test.YtemnhnhpaaoccaaPermM
import Derived.Test.YtemnhnhpaaoccaaFrame
namespace Go.Proofs.Ytemnhnhpaaoccaa
open Go.RowKit

theorem take_both (p t : Int) (n : Nat) (xs : List Int) (hl : xs.length = n) (hn : n ≤ 17592186044400) :
    ∃ (q P : Int) (m : Nat) (L : List Int), (∀ w A c, Rd w A (ivals xs) → Calls Try.prog 9 #[semaV p A n c, .int .i64 t] w (RetS P m L q w)) ∧ (∀ w A c, Rd w A (ivals xs) → Calls Try.prog 13 #[semaV p A n c, .int .i64 t] w (RetS P m L q w)) ∧ m ≤ n + 1 := by
  by_cases hs : Ser t
  · by_cases hF : Form p xs
    · by_cases hm : t ∈ xs
      · exact ⟨8, 0, 0, [], fun w A c hr => take_err w p t A n c xs 8 hl (by omega) hr hs (.inr ⟨hF, .inl ⟨hm, rfl⟩⟩), fun w A c hr => docTake_err w p t A n c xs 8 hl (by omega) hr hs (.inr ⟨hF, .inl ⟨hm, rfl⟩⟩), by omega⟩
      · by_cases hnp : (n : Int) = p
        · exact ⟨9, 0, 0, [], fun w A c hr => take_err w p t A n c xs 9 hl (by omega) hr hs (.inr ⟨hF, .inr ⟨hm, hnp, rfl⟩⟩), fun w A c hr => docTake_err w p t A n c xs 9 hl (by omega) hr hs (.inr ⟨hF, .inr ⟨hm, hnp, rfl⟩⟩), by omega⟩
        · obtain ⟨k, hk⟩ := at_some hF.2.2.2 t
          have hlt : (n : Int) < p := by have := hF.2.2.1; rw [hl] at this; omega
          exact ⟨0, p, n + 1, insL xs k t, fun w A c hr => take_ok w p t A n c k xs hl hr hs hF hk hm hlt, fun w A c hr => docTake_ok w p t A n c k xs hl hr hs hF hk hm hlt, by omega⟩
    · exact ⟨3, 0, 0, [], fun w A c hr => take_err w p t A n c xs 3 hl (by omega) hr hs (.inl ⟨hF, rfl⟩), fun w A c hr => docTake_err w p t A n c xs 3 hl (by omega) hr hs (.inl ⟨hF, rfl⟩), by omega⟩
  · exact ⟨1, 0, 0, [], fun w A c _ => take_arg w p t A n c hs, fun w A c _ => docTake_arg w p t A n c hs, by omega⟩
set_option maxHeartbeats 8000000 in
set_option maxRecDepth 100000 in
theorem permTakes_walk (w : World) (p : Int) (A : Option Addr) (n c : Nat) (xs : List Int) (hl : xs.length = n) (hr : Rd w A (xs.map (Value.int .i64))) (_hnc : n ≤ c) (hz : n ≤ 17592186043904) (x : Int) (_ : -9223372036854775808 ≤ x) (_ : x ≤ 9223372036854775807) (y : Int) (_ : -9223372036854775808 ≤ y) (_ : y ≤ 9223372036854775807) :
    Calls Try.prog 4 #[semaV p A n c, .int .i64 x, .int .i64 y] w (RetTrue w) := by
  have hr' : Rd w A (ivals xs) := hr
  obtain ⟨q, P, m, L, hC, hD, hm⟩ := take_both p x n xs hl (by omega)
  obtain ⟨q2, P2, _, hN, hM⟩ := new_cases y
  have Hl := Lib.hid hl; have Hr := Lib.hid hr'; have HC := Lib.hid hC; have HD := Lib.hid hD; have HN := Lib.hid hN; have HM := Lib.hid hM
  clear hl hr hr' hC hD hN hM
  go_enter Try.func4, Try.ntmps4
  go_wp2_with fail
  refine (of_any _ p A n c xs Hl.out (by omega) (Hr.out.alloc _)).mono ?_
  rintro e w1 ⟨A1, c1, rfl, ho1, hy1⟩
  have hc1 := own_cap ho1
  have F1 := Lib.hid (Rd.of_own ho1)
  have R1 := Lib.hid (rd_takeI (Rd.of_own ho1))
  have hx1 : Ext w w1 := ((Ext.refl w).alloc _).trans hy1
  have K1 := Lib.hid (blk_ext (blk_new w (.cells #[.int .i64 p, .slice A n c] 24 (0, 0))) hy1)
  clear ho1 hy1
  go_wp2_with fail
  refine (HC.out _ A1 c1 (R1.out.alloc _)).mono ?_
  rintro e w2 ⟨A2, c2, rfl, ho2, hy2⟩
  have hx12 : Ext w1 w2 := ((Ext.refl w1).alloc _).trans hy2
  have hL2 := Lib.hid (retS_len ho2)
  have R2 := Lib.hid (Rd.of_own ho2)
  have K2 := Lib.hid (blk_ext K1.out hx12)
  have hx2 := hx1.trans hx12
  obtain ⟨h2, hh2⟩ : ∃ h, w2.heap.size = h := ⟨_, rfl⟩
  clear ho2 hy2 K1
  have s0 := cell_past (blk_cell K2.out 0); have s1 := cell_past (blk_cell K2.out 1)
  go_wp2_with fail
  refine (HD.out _ A c ((Hr.out.ext hx2).alloc _)).mono ?_
  rintro e w3 ⟨A3, c3, rfl, ho3, hy3⟩
  have hx23 : Ext w2 w3 := ((Ext.refl w2).alloc _).trans hy3
  have R3 := Lib.hid (Rd.of_own ho3)
  have K3 := Lib.hid (blk_ext K2.out hx23)
  have KB3 := Lib.hid (blk_ext (blk_newk w2 (.cells #[.int .i64 P, .slice A2 m c2] 26 (0, 0)) hh2) hy3)
  have hx3 := hx2.trans hx23
  obtain ⟨h3, hh3⟩ : ∃ h, w3.heap.size = h := ⟨_, rfl⟩
  clear ho3 hy3 K2 s0 s1
  go_wp2_with fail
  refine (HN.out _).mono ?_
  rintro e w4 ⟨rfl, hy4⟩
  have hx34 : Ext w3 w4 := ((Ext.refl w3).alloc _).trans hy4
  have KC4 := Lib.hid (blk_ext (blk_newk w3 (.cells #[.int .i64 P, .slice A3 m c3] 24 (0, 0)) hh3) hy4)
  have hx4 := hx3.trans hx34
  obtain ⟨h4, hh4⟩ : ∃ h, w4.heap.size = h := ⟨_, rfl⟩
  clear hy4
  go_wp2_with fail
  refine (HM.out _).mono ?_
  rintro e w5 ⟨rfl, hy5⟩
  have hx45 : Ext w4 w5 := ((Ext.refl w4).alloc _).trans hy5
  have KN5 := Lib.hid (blk_ext (blk_newk w4 (.cells #[.int .i64 P2, .slice none 0 0] 26 (0, 0)) hh4) hy5)
  have hx5 := hx4.trans hx45
  obtain ⟨h5, hh5⟩ : ∃ h, w5.heap.size = h := ⟨_, rfl⟩
  clear hy5
  go_wp2_with fail
  refine (permAwake _).mono ?_
  rintro e w6 ⟨rfl, hy6⟩
  have hx56 : Ext w5 w6 := ((Ext.refl w5).alloc _).trans hy6
  have KM6 := Lib.hid (blk_ext (blk_newk w5 (.cells #[.int .i64 P2, .slice none 0 0] 24 (0, 0)) hh5) hy6)
  have hx46 := hx45.trans hx56
  have hx36 := hx34.trans hx46
  have KN6 := Lib.hid (blk_ext KN5.out hx56)
  have KC6 := Lib.hid (blk_ext KC4.out hx46)
  have KB6 := Lib.hid (blk_ext KB3.out hx36)
  have K6 := Lib.hid (blk_ext K3.out hx36)
  have hx6 := hx5.trans hx56
  clear hy6 KN5 KC4 KB3 K3
  have b0 := blk_cell KB6.out 0; have b1 := blk_cell KB6.out 1
  have d0 := blk_cell KC6.out 0; have d1 := blk_cell KC6.out 1
  go_wp2_with fail
  refine (permSame_any w6 P P A2 A3 m c2 m c3 L L hL2.out hL2.out (by omega) (R2.out.ext (hx23.trans hx36)) (R3.out.ext hx36)).mono ?_
  rintro e w7 ⟨rfl, hy7⟩
  rw [show decide (P = P ∧ L = L) = true by simp]
  have KN7 := Lib.hid (blk_ext KN6.out hy7); have KM7 := Lib.hid (blk_ext KM6.out hy7); have K7 := Lib.hid (blk_ext K6.out hy7)
  have hx7 := hx6.trans hy7
  clear b0 b1 d0 d1 KN6 KM6 K6
  have b0 := blk_cell KN7.out 0; have b1 := blk_cell KN7.out 1
  have d0 := blk_cell KM7.out 0; have d1 := blk_cell KM7.out 1
  go_wp2_with fail
  refine (permSame_any w7 P2 P2 none none 0 0 0 0 [] [] rfl rfl (by omega) (Rd.nil _ _) (Rd.nil _ _)).mono ?_
  rintro e w8 ⟨rfl, hy8⟩
  rw [show decide (P2 = P2 ∧ ([] : List Int) = []) = true by simp]
  have K8 := Lib.hid (blk_ext K7.out hy8)
  have hx8 := hx7.trans hy8
  clear b0 b1 d0 d1 K7
  have s0 := blk_cell K8.out 0; have s1 := blk_cell K8.out 1
  go_wp2_with fail
  refine (permKept w8 A1 A p n c1 c xs Hl.out (by omega) hc1 (F1.out.ext (hx12.trans ((hx23.trans hx36).trans (hy7.trans hy8)))) (Hr.out.ext hx8)).mono ?_
  rintro e w9 ⟨rfl, hy9⟩
  go_wp2_with fail
  go_ret
  exact retTrue (hx8.trans hy9)
end Go.Proofs.Ytemnhnhpaaoccaa
