/- HashPieces answers true: where bytes are cut counts nothing. -/
import Derived.Test.YtlfccmipfijjbaaHashAwake
namespace Go.Proofs.Ytlfccmipfijjbaa
open Go.RowKit

set_option maxHeartbeats 1000000 in
theorem hashPieces_walk (w : World) (h : Nat) (hh : h < 18446744073709551616) (A : Option Addr) (n c : Nat) (xs : List Nat) (hl : xs.length = n) (hb : ∀ x ∈ xs, x < 256) (hr : Rd w A (vals .u8 xs)) (_hnc : n ≤ c) (hz : n ≤ 1048576)
    (B : Option Addr) (m d : Nat) (ys : List Nat) (hl' : ys.length = m) (hb' : ∀ x ∈ ys, x < 256) (hr' : Rd w B (vals .u8 ys)) (_hnc' : m ≤ d) (hz' : m ≤ 1048576) :
    Calls Try.prog 6 #[.int .u64 (h : Int), .slice A n c, .slice B m d] w (RetTrue w) := by
  have hu1 := upd_lt h xs hh
  have hs1 := upd_lt 14695981039346656037 xs (by omega)
  have hlall : (xs ++ ys).length = n + m := by rw [List.length_append, hl, hl']
  have hball : ∀ x ∈ xs ++ ys, x < 256 := fun x hx => by
    rcases List.mem_append.1 hx with hx | hx
    · exact hb x hx
    · exact hb' x hx
  have C1 := Lib.hid (fun w1 (hx : Ext w w1) => update_any h A n c xs w1 hl hb (by omega) hh (hr.ext hx))
  have C2 := Lib.hid (fun w1 (hx : Ext w w1) => update_any (upd h xs) B m d ys w1 hl' hb' (by omega) hu1 (hr'.ext hx))
  have C3 := Lib.hid (fun w1 (hx : Ext w w1) => sum_any A n c xs w1 hl hb (by omega) (hr.ext hx))
  have C4 := Lib.hid (fun w1 (hx : Ext w w1) => update_any (upd 14695981039346656037 xs) B m d ys w1 hl' hb' (by omega) hs1 (hr'.ext hx))
  have C5 := Lib.hid (fun w1 => upd_nil h ▸ update_any h none 0 0 [] w1 rfl (by simp) (by omega) hh (Rd.nil _ _))
  have Hr := Lib.hid hr; have Hl := Lib.hid hl; have Hr' := Lib.hid hr'; have Hl' := Lib.hid hl'; have Hlall := Lib.hid hlall; have Hball := Lib.hid hball
  clear hr hl hb hr' hl' hb' hlall hball
  have Ha := Lib.hid (fun k => upd_append k xs ys)
  go_enter Try.func6, Try.ntmps6
  go_wp2_with (first | (at_builtin; refine app_u8 _ rfl (.tmp 8) (.tmp 9) rfl w.heap.size rfl (own0 w) rfl Hl.out (Hr.out.alloc _) (by omega) (by simp) ?_; intro A1 c1 w1 hown1 hgrow1 _; simp only [Nat.zero_add, List.nil_append] at hown1) | (at_builtin; refine app_u8 _ rfl (.tmp 10) (.tmp 11) rfl w.heap.size rfl hown1 rfl Hl'.out (Hr'.out.ext (((Ext.refl w).alloc _).grown hgrow1 (by simp [Value.ownBlock]))) (by omega) (by have := hgrow1.size; simp at this; omega) ?_; intro A2 c2 w2 hown2 hgrow2 _) | (fail))
  have hx2 : Ext w w2 := (((Ext.refl w).alloc _).grown hgrow1 (by simp [Value.ownBlock])).grown hgrow2 (own_ge hown1)
  clear hgrow1 hgrow2 hown1
  refine (awake_any w2).mono ?_
  rintro e w3 ⟨rfl, hx3⟩
  have hr3 := Lib.hid ((Rd.of_own hown2).ext hx3)
  have hx3 := hx2.trans hx3
  clear hown2 hx2
  go_wp2_with fail
  refine (C1.out w3 hx3).mono ?_
  rintro e w4 ⟨rfl, rfl⟩
  go_wp2_with fail
  refine (C2.out w3 hx3).mono ?_
  rintro e w4 ⟨rfl, rfl⟩
  go_wp2_with fail
  refine (update_any h A2 (n + m) c2 (xs ++ ys) w3 Hlall.out Hball.out (by omega) hh hr3.out).mono ?_
  rintro e w4 ⟨rfl, rfl⟩
  rw [Ha.out h]
  go_wp2_with fail
  refine (C3.out w3 hx3).mono ?_
  rintro e w4 ⟨rfl, rfl⟩
  go_wp2_with fail
  refine (C4.out w3 hx3).mono ?_
  rintro e w4 ⟨rfl, rfl⟩
  go_wp2_with fail
  refine (sum_any A2 (n + m) c2 (xs ++ ys) w3 Hlall.out Hball.out (by omega) hr3.out).mono ?_
  rintro e w4 ⟨rfl, rfl⟩
  rw [Ha.out]
  go_wp2_with fail
  refine (C5.out w3).mono ?_
  rintro e w4 ⟨rfl, rfl⟩
  go_wp2_with fail
  go_ret
  exact retTrue hx3
end Go.Proofs.Ytlfccmipfijjbaa
