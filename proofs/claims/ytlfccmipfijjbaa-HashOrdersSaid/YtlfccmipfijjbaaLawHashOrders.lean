/- HashOrders answers true: every Order is the document's; it is one order. -/
import Derived.Test.YtlfccmipfijjbaaHashAwake
namespace Go.Proofs.Ytlfccmipfijjbaa
open Go.RowKit

theorem same_ord (xs ys : List Nat) : same xs ys = (ord xs ys == 0) := by
  unfold same
  rw [Bool.eq_iff_iff]
  simp [ord_eq]

set_option maxHeartbeats 4000000 in
theorem hashOrders_walk (w : World) (A : Option Addr) (n c : Nat) (xs : List Nat) (hl : xs.length = n) (hb : ∀ x ∈ xs, x < 256) (hr : Rd w A (vals .u8 xs)) (_hnc : n ≤ c) (hz : n ≤ 140737488351232)
    (B : Option Addr) (m d : Nat) (ys : List Nat) (hl' : ys.length = m) (hb' : ∀ x ∈ ys, x < 256) (hr' : Rd w B (vals .u8 ys)) (_hnc' : m ≤ d) (hz' : m ≤ 140737488351232)
    (C : Option Addr) (p f : Nat) (zs : List Nat) (hl'' : zs.length = p) (hb'' : ∀ x ∈ zs, x < 256) (hr'' : Rd w C (vals .u8 zs)) (_hnc'' : p ≤ f) (_hz'' : p ≤ 140737488351232) :
    Calls Try.prog 5 #[.slice A n c, .slice B m d, .slice C p f] w (RetTrue w) := by
  have c1 := Lib.hid (order_any A B n c m d xs ys w hl hl' hb hb' hr hr')
  have c2 := Lib.hid (order_any B C m d p f ys zs w hl' hl'' hb' hb'' hr' hr'')
  have c3 := Lib.hid (order_any A C n c p f xs zs w hl hl'' hb hb'' hr hr'')
  have c4 := Lib.hid (fun w1 (hx : Ext w w1) => toE_q (refOrder_any A B n c m d xs ys w1 hl hl' (by omega) (by omega) hb hb' (hr.ext hx) (hr'.ext hx)))
  have c5 := Lib.hid (fun w1 (hx : Ext w w1) => order_any B A m d n c ys xs w1 hl' hl hb' hb (hr'.ext hx) (hr.ext hx))
  have c6 := Lib.hid (fun w1 (hx : Ext w w1) => order_any A A n c n c xs xs w1 hl hl hb hb (hr.ext hx) (hr.ext hx))
  have c7 := Lib.hid (fun w1 (hx : Ext w w1) => toE_q (same_any A B n c m d xs ys w1 hl hl' (by omega) hb hb' (hr.ext hx) (hr'.ext hx)))
  have t := ord_trans xs ys zs
  have v1 := ord_val xs ys
  have v2 := ord_val ys zs
  have v3 := ord_val xs zs
  simp only [ord_swap xs ys, ord_refl xs, same_ord xs ys] at c5 c6 c7
  generalize ord xs ys = x at *
  generalize ord ys zs = y at *
  generalize ord xs zs = z at *
  obtain ⟨t1, t2, _⟩ := t
  clear hl hl' hl'' hb hb' hb'' hr hr' hr''
  rcases v1 with rfl | rfl | rfl <;> rcases v2 with rfl | rfl | rfl <;> rcases v3 with rfl | rfl | rfl <;>
    first
    | (exfalso; revert t1 t2; decide)
    | (clear t1 t2
       go_enter Try.func5, Try.ntmps5
       go_wp2_with fail
       refine c1.out.mono ?_
       rintro e w1 ⟨rfl, rfl⟩
       go_wp2_with fail
       refine c2.out.mono ?_
       rintro e w1 ⟨rfl, rfl⟩
       go_wp2_with fail
       refine c3.out.mono ?_
       rintro e w1 ⟨rfl, rfl⟩
       go_wp2_with fail
       refine (awake_any w).mono ?_
       rintro e w1 ⟨rfl, hx1⟩
       go_wp2_with fail
       refine (c4.out w1 hx1).mono ?_
       rintro e w2 ⟨rfl, hx2⟩
       go_wp2_with fail
       refine (c5.out w2 (hx1.trans hx2)).mono ?_
       rintro e w3 ⟨rfl, rfl⟩
       go_wp2_with fail
       refine (c6.out w2 (hx1.trans hx2)).mono ?_
       rintro e w3 ⟨rfl, rfl⟩
       go_wp2_with fail
       refine (c7.out w2 (hx1.trans hx2)).mono ?_
       rintro e w4 ⟨rfl, hx4⟩
       go_wp2_with fail
       go_ret
       exact retTrue (hx1.trans (hx2.trans hx4)))
end Go.Proofs.Ytlfccmipfijjbaa
