/- HashIdents answers true: every Ident and Parts are the document's, and lead back to one another. -/
import Derived.Test.YtlfccmipfijjbaaHashAwake
import Derived.Test.YtlfccmipfijjbaaHashD
namespace Go.Proofs.Ytlfccmipfijjbaa
open Go.RowKit

theorem same_self (xs : List Nat) : same xs xs = true := decide_eq_true rfl

set_option maxHeartbeats 4000000 in
theorem hashIdents_walk (w : World) (p : Int) (_h1 : -9223372036854775808 ≤ p) (_h2 : p ≤ 9223372036854775807) (A : Option Addr) (n c : Nat) (xs : List Nat) (hl : xs.length = n) (hb : ∀ x ∈ xs, x < 256) (hr : Rd w A (vals .u8 xs)) (_hnc : n ≤ c) (hz : n ≤ 140737488351232)
    (B : Option Addr) (m d : Nat) (ys : List Nat) (hl' : ys.length = m) (hb' : ∀ x ∈ ys, x < 256) (hr' : Rd w B (vals .u8 ys)) (hnc' : m ≤ d) (hz' : m ≤ 140737488351232) :
    Calls Try.prog 8 #[.int .i64 p, .slice A n c, .slice B m d] w (RetTrue w) := by
  have hI := @identF_ok p xs
  have hP := @partsF_ok ys
  have C1 := Lib.hid (fun w1 A' c' (h : Rd w1 A' (vals .u8 xs)) => ident_all p A' n c' xs w1 hl h)
  have C2 := Lib.hid (fun w1 (hx : Ext w w1) => docIdent_all p A n c xs w1 hl hb (hr.ext hx))
  have C3 := Lib.hid (fun w1 A' c' (hc : m ≤ c') (h : Rd w1 A' (vals .u8 ys)) => parts_all A' m c' ys w1 hl' hc hb' h)
  have C4 := Lib.hid (fun w1 (hx : Ext w w1) => docParts_all B m d ys w1 hl' hnc' hb' (hr'.ext hx))
  have T1 := Lib.hid (twin_any A n c xs w hl (by omega) hr)
  have T2 := Lib.hid (fun w1 (hx : Ext w w1) => twin_any B m d ys w1 hl' (by omega) (hr'.ext hx))
  have hm1 := identF_mem (p := p) hb
  have hm2 := partsF_mem hb'
  have hv1 : (identF p xs).1.length ≤ 256 := by
    unfold identF
    split
    · simp
    · split
      · simp
      · simp; omega
  have hv2 : (partsF ys).2.1.length ≤ 256 := by
    cases ys with
    | nil => simp [partsF]
    | cons y t =>
      unfold partsF
      dsimp only
      split
      · simp
      · simp only []; omega
  generalize hI1 : (identF p xs).1 = o1 at *
  generalize (identF p xs).2 = e1 at *
  generalize hP0 : (partsF ys).1 = q at *
  generalize hP1 : (partsF ys).2.1 = o2 at *
  generalize (partsF ys).2.2 = e2 at *
  clear hI1 hP0 hP1
  have S1 := Lib.hid (fun A B c d w1 h1 h2 => toE_q (same_any A B o1.length c o1.length d o1 o1 w1 rfl rfl (by omega) hm1 hm1 h1 h2))
  have S2 := Lib.hid (fun A B c d w1 h1 h2 => toE_q (same_any A B o2.length c o2.length d o2 o2 w1 rfl rfl (by omega) hm2 hm2 h1 h2))
  have S3 := Lib.hid (fun A' c' w1 (hx : Ext w w1) h1 => toE_q (same_any A' A n c' n c xs xs w1 hl hl (by omega) hb hb h1 (hr.ext hx)))
  have S4 := Lib.hid (fun A' c' w1 (hx : Ext w w1) h1 => toE_q (same_any A' B m c' m d ys ys w1 hl' hl' (by omega) hb' hb' h1 (hr'.ext hx)))
  rw [same_self] at S1 S2 S3 S4
  have Hm1 := Lib.hid hm1; have Hm2 := Lib.hid hm2
  have Hl := Lib.hid hl; have Hl' := Lib.hid hl'
  clear hm1 hm2 hl hl' hb hb' hr hr'
  have HI := Lib.hid hI; have HP := Lib.hid hP; clear hI hP
  have hb1 : o1.length ≤ 256 := hv1
  clear hv1 hv2
  go_enter Try.func8, Try.ntmps8
  go_wp2_with fail
  refine T1.out.mono ?_
  rintro e w1 ⟨A1, c1, rfl, hown1, hx1⟩
  rw [Hl.out] at hown1 ⊢
  go_wp2_with fail
  refine (C1.out w1 A1 c1 (Rd.of_own hown1)).mono ?_
  clear hown1
  rintro e w2 ⟨A2, n2, c2, rfl, hn2, hnc2, hr2, hx2⟩
  subst hn2
  have hx2 := hx1.trans hx2
  clear hx1
  have Hr2 := Lib.hid hr2; clear hr2
  go_wp2_with fail
  refine (C2.out w2 hx2).mono ?_
  rintro e w3 ⟨A3, n3, c3, rfl, hn3, hnc3, hr3, hx3⟩
  subst hn3
  have Hr2 := Lib.hid (Hr2.out.ext hx3)
  have hx3 := hx2.trans hx3
  clear hx2
  have Hr3 := Lib.hid hr3; clear hr3
  go_wp2_with fail
  refine (T2.out w3 hx3).mono ?_
  rintro e w4 ⟨A4, c4, rfl, hown4, hx4⟩
  rw [Hl'.out] at hown4 ⊢
  have Hr2 := Lib.hid (Hr2.out.ext hx4)
  have Hr3 := Lib.hid (Hr3.out.ext hx4)
  have hx4 := hx3.trans hx4
  clear hx3
  go_wp2_with fail
  refine (C3.out w4 A4 c4 (own_cap hown4) (Rd.of_own hown4)).mono ?_
  clear hown4
  rintro e w5 ⟨A5, n5, c5, rfl, hn5, hnc5, hr5, hx5⟩
  subst hn5
  have Hr2 := Lib.hid (Hr2.out.ext hx5)
  have Hr3 := Lib.hid (Hr3.out.ext hx5)
  have hx5 := hx4.trans hx5
  clear hx4
  have Hr5 := Lib.hid hr5; clear hr5
  go_wp2_with fail
  refine (C4.out w5 hx5).mono ?_
  rintro e w6 ⟨A6, n6, c6, rfl, hn6, hnc6, hr6, hx6⟩
  subst hn6
  have Hr2 := Lib.hid (Hr2.out.ext hx6)
  have Hr3 := Lib.hid (Hr3.out.ext hx6)
  have Hr5 := Lib.hid (Hr5.out.ext hx6)
  have hx6 := hx5.trans hx6
  clear hx5
  have Hr6 := Lib.hid hr6; clear hr6
  go_wp2_with fail
  refine (awake_any w6).mono ?_
  rintro e w7 ⟨rfl, hx7⟩
  have Hr2 := Lib.hid (Hr2.out.ext hx7)
  have Hr3 := Lib.hid (Hr3.out.ext hx7)
  have Hr5 := Lib.hid (Hr5.out.ext hx7)
  have Hr6 := Lib.hid (Hr6.out.ext hx7)
  have hx7 := hx6.trans hx7
  clear hx6
  go_wp2_with fail
  refine (S1.out A2 A3 c2 c3 w7 Hr2.out Hr3.out).mono ?_
  rintro e w8 ⟨rfl, hx8⟩
  have Hr2 := Lib.hid (Hr2.out.ext hx8)
  have Hr5 := Lib.hid (Hr5.out.ext hx8)
  have Hr6 := Lib.hid (Hr6.out.ext hx8)
  have hx8 := hx7.trans hx8
  clear hx7
  go_wp2_with fail
  refine (S2.out A5 A6 c5 c6 w8 Hr5.out Hr6.out).mono ?_
  rintro e w9 ⟨rfl, hx9⟩
  have Hr2 := Lib.hid (Hr2.out.ext hx9)
  have Hr5 := Lib.hid (Hr5.out.ext hx9)
  have hx9 := hx8.trans hx9
  clear hx8
  go_wp2_with fail
  · have he1 : e1 = 0 := eq_of_beq (show (e1 == 0) = true by assumption)
    obtain ⟨pp, hp, hlt, hlen, ho⟩ := HI.out he1
    have P1 := parts_all A2 o1.length c2 o1 w9 rfl hnc2 Hm1.out Hr2.out
    rw [show partsF o1 = (pp, xs, 0) by rw [ho]; exact partsF_mk pp xs hlt hlen] at P1
    clear ho hlen
    have HP1 := Lib.hid P1; clear P1
    refine HP1.out.mono ?_
    rintro e w10 ⟨A7, n7, c7, rfl, hn7, hnc7, hr7, hy10⟩
    have e7 : n = n7 := by rw [← hn7, Hl.out]
    subst e7
    clear hn7
    have hx10 := hx9.trans hy10
    have Hr5 := Lib.hid (Hr5.out.ext hy10)
    subst hp
    go_wp2_with fail
    refine (S3.out A7 c7 w10 hx10 hr7).mono ?_
    rintro e w11 ⟨rfl, hy11⟩
    have Hr5 := Lib.hid (Hr5.out.ext hy11)
    have hx11 := hx10.trans hy11
    go_wp2_with fail
    · have he2 : e2 = 0 := eq_of_beq (show (e2 == 0) = true by assumption)
      obtain ⟨y, t, hy, hlt2, hlen2, hq, ho2⟩ := HP.out he2
      subst hq
      have P2 := ident_all (q : Int) A5 o2.length c5 o2 w11 rfl Hr5.out
      rw [show identF (q : Int) o2 = (ys, 0) by rw [identF_mk q o2 hlt2 (by rw [ho2]; exact hlen2), hy, ho2]] at P2
      clear ho2 hlen2 hy
      have HP2 := Lib.hid P2; clear P2
      refine HP2.out.mono ?_
      rintro e w20 ⟨A8, n8, c8, rfl, hn8, hnc8, hr8, hy20⟩
      have e8 : m = n8 := by rw [← hn8, Hl'.out]
      subst e8
      clear hn8
      have hx20 := hx11.trans hy20
      go_wp2_with fail
      refine (S4.out A8 c8 w20 hx20 hr8).mono ?_
      rintro e w21 ⟨rfl, hy21⟩
      go_wp2_with fail
      go_ret
      exact retTrue (hx20.trans hy21)
    · go_ret
      exact retTrue hx11
  · have he2 : e2 = 0 := eq_of_beq (show (e2 == 0) = true by assumption)
    obtain ⟨y, t, hy, hlt2, hlen2, hq, ho2⟩ := HP.out he2
    subst hq
    have P2 := ident_all (q : Int) A5 o2.length c5 o2 w9 rfl Hr5.out
    rw [show identF (q : Int) o2 = (ys, 0) by rw [identF_mk q o2 hlt2 (by rw [ho2]; exact hlen2), hy, ho2]] at P2
    clear ho2 hlen2 hy
    have HP2 := Lib.hid P2; clear P2
    refine HP2.out.mono ?_
    rintro e w20 ⟨A8, n8, c8, rfl, hn8, hnc8, hr8, hy20⟩
    have e8 : m = n8 := by rw [← hn8, Hl'.out]
    subst e8
    clear hn8
    have hx20 := hx9.trans hy20
    go_wp2_with fail
    refine (S4.out A8 c8 w20 hx20 hr8).mono ?_
    rintro e w21 ⟨rfl, hy21⟩
    go_wp2_with fail
    go_ret
    exact retTrue (hx20.trans hy21)
  · go_ret
    exact retTrue hx9
end Go.Proofs.Ytlfccmipfijjbaa
