/- the document's Request and DocRequest. -/
import Derived.Test.YthkdjjfnmlemdaaWireA2
import Derived.Test.YthkdjjfnmlemdaaBase3
namespace Go.Proofs.Ythkdjjfnmlemdaa
open Go.RowKit

theorem refForm_ok (N : Int) (w : World) (h : 0 ≤ N) (h' : N ≤ 4611686018427387903) : Calls Try.prog 74 #[.int .i64 N] w fun e w' => e = .returned (.bool true) ∧ w = w' := by
  go_enter Try.func74, Try.ntmps74
  go_wp2_with fail
  go_ret
  exact ⟨rfl, rfl⟩
theorem refForm_bad (N : Int) (w : World) (h : N < 0 ∨ 4611686018427387903 < N) : Calls Try.prog 74 #[.int .i64 N] w fun e w' => e = .returned (.bool false) ∧ w = w' := by
  rcases h with h | h
  · go_enter Try.func74, Try.ntmps74
    go_wp2_with fail
    go_ret
    exact ⟨rfl, rfl⟩
  · have h' : 0 ≤ N := by omega
    go_enter Try.func74, Try.ntmps74
    go_wp2_with fail
    go_ret
    exact ⟨ret_bool (by simp; omega), rfl⟩

theorem own_in {w : World} {B : Nat} {e : TypeId} {size : Nat} {v : Value} {n : Nat} {xs : List Value} (h : w.ownsRow B e size v n xs) (o : Obj) : (w.alloc o).ownsRow B e size v n xs := own_ext h ((Ext.refl w).alloc o)
theorem own_b1' (w : World) (o : Obj) (y : Nat) : ((w.alloc o).alloc (.cells #[.int .u8 (y : Int)] 5)).ownsRow w.heap.size 5 1 (.slice (some ⟨w.heap.size + 1, 0, none⟩) 1 1) 1 (vals .u8 [y]) := by
  have h := own1 (w.alloc o) y
  rw [World.size_alloc] at h
  exact own_base h (by omega)

theorem own_b1s (w : World) (o : Obj) (y : Nat) : ((w.alloc o).alloc (.cells #[.int .u8 (y : Int)] 5)).ownsRow (w.heap.size + 1) 5 1 (.slice (some ⟨w.heap.size + 1, 0, none⟩) 1 1) 1 (vals .u8 [y]) := by
  have h := own1 (w.alloc o) y
  rwa [World.size_alloc] at h

theorem refReq56 (w : World) (o : Nat) (ho : o = 5 ∨ o = 6) (p N : Int) (A : Option Addr) (n c : Nat) :
    Calls Try.prog 75 #[callV (o : Int) p A n c N] w (RetB [o] w) := by
  have q3 : ((o : Int) == 3) = false := by rw [beq_eq_false_iff_ne]; omega
  have hh : ((o : Int) == 5) = true ∨ (((o : Int) == 5) = false ∧ ((o : Int) == 6) = true) := by
    rcases ho with h | h
    · left; rw [beq_iff_eq]; omega
    · right; exact ⟨by rw [beq_eq_false_iff_ne]; omega, by rw [beq_iff_eq]; omega⟩
  have Ho := Lib.hid ho; clear ho
  rcases hh with h5 | ⟨h5, h6⟩
  · go_enter Try.func75, Try.ntmps75
    go_wp2_with fail
    go_ret
    exact retB_of rfl (own_b1' w _ o) (((Ext.refl w).alloc _).alloc _)
  · go_enter Try.func75, Try.ntmps75
    go_wp2_with fail
    go_ret
    exact retB_of rfl (own_b1' w _ o) (((Ext.refl w).alloc _).alloc _)
set_option maxHeartbeats 1000000 in
theorem refReq3 (w : World) (p N : Nat) (A : Option Addr) (n c : Nat) (xs : List Nat) (hl : xs.length = n) (hb : ∀ x ∈ xs, x < 256) (hr : Rd w A (vals .u8 xs)) (h1 : 1 ≤ N) (h2 : N ≤ 4611686018427387903) (h4 : p < 32) (hn : n ≤ 255) :
    Calls Try.prog 75 #[callV 3 (p : Int) A n c (N : Int)] w (RetB (3 :: tokB p xs N) w) := by
  have C := Lib.hid (fun w1 hr' => refTok_any w1 p N A n c xs hl hb hr' h1 h2 h4 hn)
  have hL : (tokB p xs N).length = n + 16 := by rw [tokB_len, hl]
  have HL := Lib.hid hL; have Hr := Lib.hid hr; clear hl hr hb hL
  have H0 := Lib.hid (own_b1' w (.cells #[.int .u8 3, .int .i64 p, .slice A n c, .int .i64 N] 63) 3)
  go_enter Try.func75, Try.ntmps75
  go_wp2_with fail
  refine (C.out _ ((Hr.out.alloc _).alloc _)).mono ?_
  rintro e w1 ⟨A1, c1, rfl, hown, hy⟩
  rw [HL.out] at hown ⊢
  have hx : Ext w w1 := (((Ext.refl w).alloc _).alloc _).trans hy
  have R1 := Lib.hid (Rd.of_own hown)
  have h0 := own_ext H0.out hy
  have hs : w.heap.size ≤ w1.heap.size := hx.size
  clear hown
  go_wp2_with (first | (at_builtin; refine app_u8 _ rfl (.tmp 11) (.tmp 19) rfl w.heap.size rfl h0 rfl HL.out R1.out (by omega) (by omega) ?_; intro A2 c2 w2 hown2 hgrow2 _) | fail)
  go_ret
  refine retB_of ?_ hown2 (hx.grown hgrow2 (own_ge h0))
  show (3 :: tokB p xs N).length = _
  rw [List.length_cons, HL.out]; omega
set_option maxHeartbeats 1000000 in
theorem refReq24 (w : World) (o p : Nat) (ho : o = 2 ∨ o = 4) (N : Int) (A : Option Addr) (n c : Nat) (xs : List Nat) (hl : xs.length = n) (hr : Rd w A (vals .u8 xs)) (h4 : p < 32) (hn : n ≤ 255) :
    Calls Try.prog 75 #[callV (o : Int) (p : Int) A n c N] w (RetB (o :: p :: xs.length :: xs) w) := by
  have q1 : ((o : Int) == 1) = false := by rw [beq_eq_false_iff_ne]; omega
  have q3 : ((o : Int) == 3) = false := by rw [beq_eq_false_iff_ne]; omega
  have q5 : ((o : Int) == 5) = false := by rw [beq_eq_false_iff_ne]; omega
  have q6 : ((o : Int) == 6) = false := by rw [beq_eq_false_iff_ne]; omega
  have Ho := Lib.hid ho; clear ho
  have H0 := Lib.hid (own_b1s w (.cells #[.int .u8 (o : Int), .int .i64 p, .slice A n c, .int .i64 N] 63) o)
  have Hl := Lib.hid hl; have Hr := Lib.hid hr; clear hl hr
  have hwn : IntKind.u8.wrap (n : Int) = (n : Int) := by rw [IntKind.wrap_u8]; omega
  have hwp : IntKind.u8.wrap (p : Int) = (p : Int) := by rw [IntKind.wrap_u8]; omega
  go_enter Try.func75, Try.ntmps75
  go_wp2_with (first
    | (at_builtin; refine app_u8 _ rfl (.tmp 25) (.tmp 33) rfl (w.heap.size + 1) rfl (own_in H0.out _) rfl (m := 2) (news := [p, n]) rfl (rd_newk _ _ _ (by simp)) (by omega) (by simp <;> omega) ?_; intro A1 c1 w1 hown1 hgrow1 _; have hx1 : Ext w w1 := ((((Ext.refl w).alloc _).alloc _).alloc _).grown hgrow1 (fun k hk => by have := own_ge H0.out k hk; omega); have k1 := Lib.hid (hgrow1.block w.heap.size (by simp <;> omega) (fun e => by have := own_ge H0.out _ e.symm; omega)); have kk : Hid (w1.heap[w.heap.size]? = some (.cells #[.int .u8 (o : Int), .int .i64 p, .slice A n c, .int .i64 N] 63 (0, 0))) := k1.out.trans (blk_past (blk_past (blk_new w _) _) _); have g0 := blk_cell kk.out 0; have g2 := blk_cell kk.out 2)
    | (at_builtin; refine app_u8 _ rfl (.tmp 35) (.tmp 37) rfl (w.heap.size + 1) rfl hown1 rfl Hl.out (Hr.out.ext hx1) (by omega) (blk_lt kk.out) ?_; intro A2 c2 w2 hown2 hgrow2 _; have hx2 : Ext w w2 := hx1.grown hgrow2 (fun k hk => by have := own_ge hown1 k hk; omega); have k2 := Lib.hid (hgrow2.block w.heap.size (blk_lt kk.out) (fun e => by have := own_ge hown1 _ e.symm; omega)); have kk2 : Hid (w2.heap[w.heap.size]? = some (.cells #[.int .u8 (o : Int), .int .i64 p, .slice A n c, .int .i64 N] 63 (0, 0))) := k2.out.trans kk.out; have j0 := blk_cell kk2.out 0)
    | fail)
  go_ret
  have hx : Ext w w2 := hx2
  refine retB_of (n := 1 + 2 + n) ?_ ?_ hx2
  · simp only [List.length_cons, Hl.out]; omega
  · rw [Hl.out]; exact own_base hown2 (by omega)
set_option maxHeartbeats 1000000 in
theorem refReq1 (w : World) (p N : Nat) (A : Option Addr) (n c : Nat) (xs : List Nat) (hl : xs.length = n) (hr : Rd w A (vals .u8 xs)) (h4 : p < 32) (hn : n ≤ 255) (hN : N ≤ 4611686018427387903) :
    Calls Try.prog 75 #[callV 1 (p : Int) A n c (N : Int)] w (RetB (1 :: p :: xs.length :: (xs ++ wordB N 8)) w) := by
  have H0 := Lib.hid (own_b1s w (.cells #[.int .u8 1, .int .i64 p, .slice A n c, .int .i64 N] 63) 1)
  have Hl := Lib.hid hl; have Hr := Lib.hid hr; clear hl hr
  have hwn : IntKind.u8.wrap (n : Int) = (n : Int) := by rw [IntKind.wrap_u8]; omega
  have hwp : IntKind.u8.wrap (p : Int) = (p : Int) := by rw [IntKind.wrap_u8]; omega
  go_enter Try.func75, Try.ntmps75
  go_wp2_with (first
    | (at_builtin; refine app_u8 _ rfl (.tmp 25) (.tmp 33) rfl (w.heap.size + 1) rfl (own_in H0.out _) rfl (m := 2) (news := [p, n]) rfl (rd_newk _ _ _ (by simp)) (by omega) (by simp <;> omega) ?_; intro A1 c1 w1 hown1 hgrow1 _; have hx1 : Ext w w1 := ((((Ext.refl w).alloc _).alloc _).alloc _).grown hgrow1 (fun k hk => by have := own_ge H0.out k hk; omega); have k1 := Lib.hid (hgrow1.block w.heap.size (by simp <;> omega) (fun e => by have := own_ge H0.out _ e.symm; omega)); have kk : Hid (w1.heap[w.heap.size]? = some (.cells #[.int .u8 1, .int .i64 p, .slice A n c, .int .i64 N] 63 (0, 0))) := k1.out.trans (blk_past (blk_past (blk_new w _) _) _); have g0 := blk_cell kk.out 0; have g2 := blk_cell kk.out 2)
    | (at_builtin; refine app_u8 _ rfl (.tmp 35) (.tmp 37) rfl (w.heap.size + 1) rfl hown1 rfl Hl.out (Hr.out.ext hx1) (by omega) (blk_lt kk.out) ?_; intro A2 c2 w2 hown2 hgrow2 _; have hx2 : Ext w w2 := hx1.grown hgrow2 (fun k hk => by have := own_ge hown1 k hk; omega); have k2 := Lib.hid (hgrow2.block w.heap.size (blk_lt kk.out) (fun e => by have := own_ge hown1 _ e.symm; omega)); have kk2 : Hid (w2.heap[w.heap.size]? = some (.cells #[.int .u8 1, .int .i64 p, .slice A n c, .int .i64 N] 63 (0, 0))) := k2.out.trans kk.out; have j0 := blk_cell kk2.out 0; have j3 := blk_cell kk2.out 3)
    | fail)
  have hs2 : w.heap.size < w2.heap.size := blk_lt kk2.out
  have Hown2 := Lib.hid hown2; have Hx2 := Lib.hid hx2
  clear hown1 hgrow1 hx1 k1 g0 g2 hgrow2 k2 hown2 hx2
  refine (docWord_any w2 N 8 (by omega) (by omega)).mono ?_
  rintro e w3 ⟨A3, c3, rfl, hown3, hy3⟩
  rw [wordB_len] at hown3 ⊢
  have R3 := Lib.hid (Rd.of_own hown3)
  have h2 := own_ext Hown2.out hy3
  have hs3 : w2.heap.size ≤ w3.heap.size := hy3.size
  clear hown3
  go_wp2_with (first | (at_builtin; refine app_u8 _ rfl (.tmp 42) (.tmp 46) rfl (w.heap.size + 1) rfl h2 rfl (wordB_len N 8) R3.out (by omega) (by omega) ?_; intro A4 c4 w4 hown4 hgrow4 _) | fail)
  go_ret
  have e : 1 :: p :: n :: (xs ++ wordB N 8) = [1] ++ [p, n] ++ xs ++ wordB N 8 := by simp
  rw [Hl.out, e]
  refine retB_of ?_ (own_base hown4 (by omega)) ((Hx2.out.trans hy3).grown hgrow4 (fun k hk => by have := own_ge h2 k hk; omega))
  simp only [List.length_append, List.length_cons, List.length_nil, Hl.out, wordB_len]
end Go.Proofs.Ythkdjjfnmlemdaa
