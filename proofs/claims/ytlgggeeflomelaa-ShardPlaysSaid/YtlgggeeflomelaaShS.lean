/- law 14: Same of equal lists; entries: the program's, as the document has them. -/
import Derived.Test.YtlgggeeflomelaaShR
import Derived.Test.YtlgggeeflomelaaShK
namespace Go.Proofs.Ytlgggeeflomelaa
open Go.RowKit

set_option maxHeartbeats 4000000 in
set_option maxRecDepth 100000 in
theorem rsame_ok (w : World) (A B : Option Addr) (n c c' : Nat) (l : List Ent) (ks ks' : List Kref) (hl : l.length = n) (hL : LstOk l) (hE : EntRd w A l ks) (hE' : EntRd w B l ks') :
    Calls Try.prog 47 #[.slice A n c, .slice B n c'] w fun e w' => e = .returned (.bool true) ∧ Ext w w' := by
  have Hl := Lib.hid hl; have HL := Lib.hid hL; have HE := Lib.hid hE; have HE' := Lib.hid hE'
  have hn : n ≤ 4096 := by rw [← hl]; exact hL.2.2
  clear hl hL hE hE'
  go_enter Try.func47, Try.ntmps47
  go_wp2_with fail
  go_loopw [13] (fun i wr => ∃ j : Nat, j ≤ n ∧ i = .int .i64 (j : Int) ∧ Ext w wr) (fun i _ => n - (intOf i).toNat)
  case atStart => exact ⟨0, Nat.zero_le _, rfl, Ext.refl w⟩
  case round =>
    obtain ⟨j, hj, rfl, hx⟩ := hrel
    have HX := Lib.hid hx
    by_cases hlt : j < n
    · obtain ⟨e, he⟩ : ∃ e, l[j]? = some e := ⟨_, List.getElem?_eq_getElem (by rw [Hl.out]; exact hlt)⟩
      obtain ⟨b, off, K1, k1, hA, -, a0, a1, -, r1⟩ := (HE.out.ext hx).at_ he
      obtain ⟨b', off', K2, k2, hB, -, b0, b1, -, r2⟩ := (HE'.out.ext hx).at_ he
      have hok := HL.out.2.1 e (List.mem_of_getElem? he)
      obtain ⟨x, u⟩ := e
      dsimp only at a0 a1 b0 b1 r1 r2 hok
      subst hA hB
      obtain ⟨xn, Hxn⟩ : ∃ xn, Hid (x.length = xn) := ⟨_, rfl⟩
      rw [Hxn.out] at a0 b0
      have hxn : xn ≤ 256 := by rw [← Hxn.out]; exact hok.1
      have SM := Lib.hid (fun z (y : Ext wr z) => same_any K1 K2 xn k1 xn k2 x x z Hxn.out Hxn.out (by omega) hok.2.1 hok.2.1 (r1.ext y) (r2.ext y))
      rw [show same x x = true from decide_eq_true rfl] at SM
      clear he hok r1 r2 hx
      go_upto_region 6 with fail
      go_region_held3 (fun z => z.cell? ⟨b, off + j * 2, none⟩ = some (.slice K1 xn k1) ∧ z.cell? ⟨b, off + j * 2 + 1, none⟩ = some (.int .i64 u) ∧ z.cell? ⟨b', off' + j * 2, none⟩ = some (.slice K2 xn k2) ∧ z.cell? ⟨b', off' + j * 2 + 1, none⟩ = some (.int .i64 u))
        (((try dsimp only); refine ⟨?_, ?_, ?_, ?_⟩ <;> first | (with_reducible exact drew_cell a0) | (with_reducible exact drew_cell a1) | (with_reducible exact drew_cell b0) | (with_reducible exact drew_cell b1) | (with_reducible assumption)))
        ((go_at_call 70; (with_reducible refine (SM.out _ (by first | exact Ext.refl wr | exact (Ext.refl wr).drew)).mono ?_); rintro e w3 ⟨rfl, q3, hw3⟩; have X3 : Hid (Ext wr w3) := (by rw [hw3]; exact (Ext.refl wr).drew.drewN _ : Ext wr w3); have y0 := ext_cell X3.out a0; have y1 := ext_cell X3.out a1; have y2 := ext_cell X3.out b0; have y3 := ext_cell X3.out b1; clear hw3))
      all_goals
        go_wp2_with fail
        go_roundw
        case rel => exact ⟨j + 1, hlt, by go_num, HX.out.trans X3.out⟩
        case measure => simp [intOf]; omega
    · obtain rfl : j = n := by omega
      go_wp2_with fail
      go_ret
      exact ⟨rfl, HX.out⟩
/-- the program's list, as the document has it -/
def LEntsR (l : List Ent) (w : World) (e : Ending) (w' : World) : Prop := ∃ A c ks, e = .returned (.slice A l.length c) ∧ EntRd w' A l ks ∧ Ext w w'
set_option maxHeartbeats 4000000 in
set_option maxRecDepth 100000 in
theorem lentries_any (w0 w : World) (F : Nat → Prop) (gx k : Nat) (s : SSt) (h : ShIn w0 F gx k s w) :
    Calls Try.prog 48 #[.pointer (some ⟨gx, 0, none⟩)] w (LEntsR s.lst w) := by
  obtain ⟨C, gb, L, h1, h2, h3, h4, h5, h6⟩ := h
  have EN := Lib.hid (sentries_any w C F gx gb L s h1 h5.1)
  obtain ⟨l, Hl⟩ : ∃ l, Hid (s.lst = l) := ⟨_, rfl⟩
  have hl := h5.1
  rw [Hl.out] at EN hl ⊢
  have HL := Lib.hid hl
  obtain ⟨n, Hn⟩ : ∃ n, Hid (l.length = n) := ⟨_, rfl⟩
  have hn : n ≤ 4096 := by rw [← Hn.out]; exact hl.2.2
  unfold EntsR at EN
  rw [Hn.out] at EN
  clear h1 h2 h3 h4 h5 h6 hl
  go_enter Try.func48, Try.ntmps48
  go_wp2_with fail
  refine EN.out.mono ?_
  rintro e w1 ⟨A, c, ks, rfl, hN, hx1⟩
  have HE := Lib.hid hN.rd; have HX1 := Lib.hid hx1
  clear hN hx1
  go_wp2_with fail
  go_loopw [3, 9] (fun v i wr => ∃ j : Nat, j ≤ n ∧ i = .int .i64 (j : Int) ∧ OutAt w1 wr (fun _ _ => True) v (l.take j)) (fun _ i _ => n - (intOf i).toNat)
  case atStart => exact ⟨0, Nat.zero_le _, rfl, OutAt.nil _ _ _ (Ext.refl w1)⟩
  case round =>
    obtain ⟨j, hj, rfl, ho⟩ := hrel
    have HO := Lib.hid ho
    by_cases hlt : j < n
    · obtain ⟨e, he⟩ : ∃ e, l[j]? = some e := ⟨_, List.getElem?_eq_getElem (by rw [Hn.out]; exact hlt)⟩
      obtain ⟨b, off, K1, kc, hA, hks, d0, d1, hkc, hkr⟩ := (HE.out.ext ho.ext0).at_ he
      have hkr0 := (HE.out.2.2 j (K1, kc) e hks he).2
      have HST := Lib.hid (take_succ_of he)
      obtain ⟨x, u⟩ := e
      dsimp only at d0 d1 hkc hkr hkr0
      subst hA
      obtain ⟨xn, Hxn⟩ : ∃ xn, Hid (x.length = xn) := ⟨_, rfl⟩
      rw [Hxn.out] at d0 hkc
      obtain ⟨W, hW⟩ : ∃ W, wr.alloc (.cells #[.slice K1 xn kc, .int .i64 u] 102) = W := ⟨_, rfl⟩
      have xW : Ext wr W := by rw [← hW]; exact (Ext.refl wr).alloc _
      have BX := Lib.hid (show W.heap[wr.heap.size]? = some (.cells #[.slice K1 xn kc, .int .i64 u] 102 (0, 0)) by rw [← hW]; exact blk_new wr _)
      obtain ⟨B1, j1, cb1, xs1, hv1, hj1, ow1, sz1, -, fin1⟩ := HO.out.app (xW.trans ((Ext.refl W).alloc (.cells #[.slice K1 xn kc, .int .i64 u] 160))) (q := (K1, kc)) (u := u) Hxn.out hkc hkr0 trivial (by rw [List.length_take]; omega)
      subst hv1
      have OW1 := Lib.hid ow1; have FIN1 := Lib.hid fin1
      clear ow1 fin1 xW hkr hkr0 hks he ho
      go_upto_region 5 with fail
      (try rw [hW])
      clear hW d0 d1
      have b0 : W.cell? ⟨wr.heap.size, 0, none⟩ = some (.slice K1 xn kc) := blk_cell BX.out 0
      have b1 : W.cell? ⟨wr.heap.size, 1, none⟩ = some (.int .i64 u) := blk_cell BX.out 1
      go_wp2_with (at_builtin; refine app_re _ rfl (.tmp 13) (.tmp 19) rfl w1.heap.size rfl OW1.out rfl (rd_newk W [.slice K1 xn kc, .int .i64 u] _ (by rfl)) rfl rfl (by omega) sz1 ?_; intro B2 cb2 w4 o4 g4 _; have O4 := Lib.hid (FIN1.out B2 cb2 w4 o4 g4); clear o4 g4)
      go_roundw
      case rel => exact ⟨j + 1, hlt, by go_num, by rw [HST.out]; exact O4.out⟩
      case measure => simp [intOf]; omega
    · obtain rfl : j = n := by omega
      go_wp2_with fail
      go_ret
      have h9 := HO.out
      rw [List.take_of_length_le (by rw [Hn.out]; exact Nat.le_refl _)] at h9
      obtain ⟨A', c', kk, e9, r9, -, -, x9⟩ := h9.ret
      exact ⟨A', c', kk, e9, r9, HX1.out.trans x9⟩
end Go.Proofs.Ytlgggeeflomelaa
