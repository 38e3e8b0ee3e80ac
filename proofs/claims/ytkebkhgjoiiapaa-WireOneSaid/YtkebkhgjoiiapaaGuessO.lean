/- the document's guess: a call with a key and a right number. -/
import Derived.Test.YtkebkhgjoiiapaaGuess
import Derived.Deep.RegionHeld3
namespace Go.Proofs.Ytkebkhgjoiiapaa
open Go.RowKit

set_option maxHeartbeats 4000000 in
set_option maxRecDepth 100000 in
theorem guess1_ok (w : World) (b off n c p k : Nat) (xs us : List Nat) (hk : xs.length = k) (hk' : k < 256) (hp : p < 256) (hn : n = 3 + k + us.length) (hnc : n ≤ c) (hn4 : n ≤ 4096) (hb : ∀ x ∈ us, x < 256) (hr : Rd w (some ⟨b, off, none⟩) (vals .u8 (1 :: p :: k :: (xs ++ us)))) (h8 : us.length = 8) (hN : numB us ≤ 4611686018427387903) :
    Calls Try.prog 73 #[.slice (some ⟨b, off, none⟩) n c] w (RetG 1 p xs (numB us) w) := by
  have c0 : w.cell? ⟨b, off, none⟩ = some (.int .u8 1) := by
    obtain ⟨b', off', hA, hc⟩ := hr (by simp [vals])
    injection hA with hA; injection hA with e1 e2 _; subst e1 e2
    exact hc 0 _ rfl
  have c1 : w.cell? ⟨b, off + 1, none⟩ = some (.int .u8 (p : Int)) := by
    obtain ⟨b', off', hA, hc⟩ := hr (by simp [vals])
    injection hA with hA; injection hA with e1 e2 _; subst e1 e2
    exact hc 1 _ rfl
  have c2 : w.cell? ⟨b, off + 2, none⟩ = some (.int .u8 (k : Int)) := by
    obtain ⟨b', off', hA, hc⟩ := hr (by simp [vals])
    injection hA with hA; injection hA with e1 e2 _; subst e1 e2
    exact hc 2 _ rfl
  have hblk : b < w.heap.size := World.block_lt_of_cell? w _ c0
  have hn0 : ((n : Int) == 0) = false := by rw [beq_eq_false_iff_ne]; omega
  have hn3 : 3 + k ≤ n := by omega
  have hn3' : 3 ≤ n := by omega
  have r2 := rd_cut (zs := us) hr (3 + k) us.length (by rw [show 3 + k = k + 3 by omega]; show ((xs ++ us).drop k).take us.length = us; rw [List.drop_left' hk, List.take_length])
  obtain ⟨m, Hm⟩ : ∃ m, Hid (us.length = m) := ⟨_, rfl⟩
  have hnm : n = 3 + k + m := by rw [hn, Hm.out]
  have Hnm := Lib.hid hnm
  have Hk := Lib.hid hk; have R2 := Lib.hid r2; have Hb := Lib.hid hb
  have d0 := fun o o' => cell_past (cell_past c0 o) o'
  have d00 := cell_past c0
  have d2 := fun o o' => cell_past (cell_past c2 o) o'
  have C1 := Lib.hid c1; have C0 := Lib.hid c0
  have w1p : IntKind.i64.wrap (p : Int) = (p : Int) := by rw [IntKind.wrap_i64]; omega
  obtain ⟨A3, hslk, hrd3⟩ := slice_mid_any2 Try.underlying22 size_u8 (A := some ⟨b, off, none⟩) (n := n) (c := c) (m := k) (d := c - 3) 3 (3 + k) (ki := 3) (hi := 3 + (k : Int)) rfl (by omega) (by omega) hnc (by omega) (by omega)
  have r1 : Rd w A3 (vals .u8 xs) := by
    have := hrd3 w _ (by rw [vals_len]; simp [hk]; omega) hr
    rw [← vals_drop, ← vals_take] at this
    have e : (List.take k (List.drop 3 (1 :: p :: k :: (xs ++ us)))) = xs := by show (xs ++ us).take k = xs; exact List.take_left' hk
    rwa [e] at this
  have hn1 : 1 < n := by omega
  have hn1i : (1 : Int) < (n : Int) := by omega
  have R1 := Lib.hid r1
  clear c0 c1 c2 hr r1 r2 hb hk hn hnm hrd3
  have H8 := Lib.hid h8; clear h8
  go_enter Try.func73, Try.ntmps73
  go_upto_region 15 with fail
  obtain ⟨W, hW⟩ : ∃ W, (w.alloc (.cells #[.int .u8 0, .int .i64 0, .slice none 0 0, .int .i64 0] 71)).alloc (.cells #[.int .u8 1, .int .i64 0, .slice none 0 0, .int .i64 0] 71) = W := ⟨_, rfl⟩
  have hxW : Ext w W := by rw [← hW]; exact ((Ext.refl w).alloc _).alloc _
  have K2 : Hid (W.heap[w.heap.size]? = some (.cells #[.int .u8 0, .int .i64 0, .slice none 0 0, .int .i64 0] 71 (0, 0))) := by rw [← hW]; exact blk_past (blk_new w _) _
  have K4 : Hid (W.heap[w.heap.size + 1]? = some (.cells #[.int .u8 1, .int .i64 0, .slice none 0 0, .int .i64 0] 71 (0, 0))) := by rw [← hW]; exact blk_newk _ _ (by simp)
  have hsW : w.heap.size + 2 = W.heap.size := by rw [← hW]; simp
  rw [hW]
  clear hW d0 d2 d00
  have s1 := ext_cell hxW C1.out
  have T := Lib.hid (twin_any A3 k (c - 3) xs W.drew Hk.out (by omega) (R1.out.ext hxW.drew))
  have hne1 : b ≠ w.heap.size + 1 := by omega
  go_cut [4, 7] (fun v4 v7 wd => v4 = .pointer (some ⟨w.heap.size + 1, 0, none⟩) ∧ v7 = .int .i64 (3 + (k : Int)) ∧ ∃ A4 c4, wd.heap[w.heap.size + 1]? = some (.cells #[.int .u8 1, .int .i64 (p : Int), .slice A4 k c4, .int .i64 0] 71 (0, 0)) ∧ wd.ownsRow (w.heap.size + 2) 5 1 (.slice A4 k c4) k (vals .u8 xs) ∧ Ext w wd ∧ wd.heap[w.heap.size]? = some (.cells #[.int .u8 0, .int .i64 0, .slice none 0 0, .int .i64 0] 71 (0, 0)))
  case first =>
    go_region_held3 (fun w' => w'.cell? ⟨b, off + 1, none⟩ = some (.int .u8 (p : Int)))
      ((first | assumption | exact cell_otherD (by assumption) hne1 | exact cell_other (by assumption) hne1))
      ((go_at_call 60; refine T.out.mono ?_; rintro e w4 ⟨A4, c4, rfl, hown4, hy4⟩; rw [Hk.out] at hown4 ⊢; have t1 := ext_cell hy4 (drew_cell s1); have KC4 := Lib.hid (blk_ext (show W.drew.heap[w.heap.size + 1]? = _ from K4.out) hy4); have u1 := blk_cell KC4.out 1; have u2 := blk_cell KC4.out 2; have f1 := blk_frozen KC4.out 1; have f2 := blk_frozen KC4.out 2; have Hown4 := Lib.hid hown4; have Hy4 := Lib.hid hy4; clear hown4 hy4))
    all_goals
      go_wp2_with fail
      go_meet
      have hG := grown_setCell (grown_set w4 (w.heap.size + 1) 1 (.int .i64 (p : Int))) 2 (.slice A4 k c4)
      have hoo : w4.ownsRow (w.heap.size + 2) 5 1 (.slice A4 k c4) k (vals .u8 xs) := own_base Hown4.out (by show w.heap.size + 2 ≤ W.heap.size; omega)
      exact ⟨rfl, rfl, A4, c4, blk_set (blk_set KC4.out 1 _) 2 _, hoo.kept hG (own_ne hoo (by omega)), ext_grown (hxW.drew.trans Hy4.out) hG (by omega), blk_grown' (blk_ext (show W.drew.heap[w.heap.size]? = _ from K2.out) Hy4.out) hG (by omega)⟩
  case rest =>
    obtain ⟨rfl, rfl, A4, c4, hC, ho, hxc, hR⟩ := hcut
    have KC := Lib.hid hC; have Ho := Lib.hid ho; have KR := Lib.hid hR
    have c0 := blk_cell KC.out 0; have c1 := blk_cell KC.out 1; have c2 := blk_cell KC.out 2; have c3 := blk_cell KC.out 3
    have k0 := blk_cell KR.out 0; have k1 := blk_cell KR.out 1; have k2 := blk_cell KR.out 2; have k3 := blk_cell KR.out 3
    have f0 := blk_frozen KR.out 0; have f1 := blk_frozen KR.out 1; have f2 := blk_frozen KR.out 2; have f3 := blk_frozen KR.out 3
    have e0 := ext_cell hxc C0.out
    clear hC ho hR T s1
    have h8 : m = 8 := by rw [← Hm.out]; exact H8.out
    have hne : ((n : Int) != 3 + (k : Int) + 8) = false := by have := Hnm.out; simp; omega
    have hsl8 : ∀ u : World, (Instr.slice 22 (.slice (some ⟨b, off, none⟩) n c) (some (.int .i64 (3 + (k : Int)))) none none).run Try.prog u = .ok (.slice (some ⟨b, off + (3 + k), none⟩) 8 (c - (3 + k))) u := fun u => by
      have := slice_from (P := Try.prog) Try.underlying22 size_u8 (b := b) (off := off) (n := n) (c := c) (m := 8) (d := c - (3 + k)) (3 + k) (by have := Hnm.out; omega) (by have := Hnm.out; omega) (by have := Hnm.out; omega) (by omega) u
      rwa [show ((3 + k : Nat) : Int) = 3 + (k : Int) by omega] at this
    have N1 := Lib.hid (docNumber_any wc (some ⟨b, off + (3 + k), none⟩) 8 (c - (3 + k)) us (by rw [Hm.out]; exact h8) (by omega) Hb.out (R2.out.ext hxc))
    have hd : decide (4611686018427387903 < (numB us : Int)) = false := by simp; omega
    have hw : IntKind.i64.wrap (numB us : Int) = (numB us : Int) := by rw [IntKind.wrap_i64]; omega
    have g3 := blk_frozen KC.out 3
    clear h8
    go_wp2_with fail
    refine N1.out.mono ?_
    rintro e w5 ⟨rfl, rfl⟩
    go_wp2_with fail
    refine N1.out.mono ?_
    rintro e w5 ⟨rfl, rfl⟩
    have hne2 : ¬ w.heap.size = w.heap.size + 1 := by omega
    have KC3 := Lib.hid (blk_set KC.out 3 (.int .i64 (numB us : Int)))
    have KR3 := Lib.hid (blk_grown' KR.out (grown_set wc (w.heap.size + 1) 3 (.int .i64 (numB us : Int))) (by omega))
    have Ho3 := Lib.hid (Ho.out.kept (grown_set wc (w.heap.size + 1) 3 (.int .i64 (numB us : Int))) (own_ne Ho.out (by omega)))
    have hx3 := ext_grown hxc (grown_set wc (w.heap.size + 1) 3 (.int .i64 (numB us : Int))) (by omega)
    go_upto_region 20 with fail
    obtain ⟨W3, hW3⟩ : ∃ W3, wc.setCell ⟨w.heap.size + 1, 3, none⟩ (.int .i64 (numB us : Int)) = W3 := ⟨_, rfl⟩
    rw [hW3] at KC3 KR3 Ho3 hx3 ⊢
    have KC4 : Hid (W3.heap[w.heap.size + 1]? = some (.cells #[.int .u8 1, .int .i64 (p : Int), .slice A4 k c4, .int .i64 (numB us : Int)] 71 (0, 0))) := KC3.out
    clear hW3 c0 c1 c2 c3 k0 k1 k2 k3 f0 f1 f2 f3 g3 KC KR Ho N1 KC3 e0 hsl8
    have c0 := blk_cell KC4.out 0; have c1 := blk_cell KC4.out 1; have c2 := blk_cell KC4.out 2; have c3 := blk_cell KC4.out 3
    have k0 := blk_cell KR3.out 0; have k1 := blk_cell KR3.out 1; have k2 := blk_cell KR3.out 2; have k3 := blk_cell KR3.out 3
    have f0 := blk_frozen KR3.out 0; have f1 := blk_frozen KR3.out 1; have f2 := blk_frozen KR3.out 2; have f3 := blk_frozen KR3.out 3
    go_wp2_with fail
    refine bodyPost_ret (ret_call2 rfl rfl (row4 KR3.out _ _ _ _)) rfl ?_
    exact retG_of (op := 1) (p := p) (N := numB us) Hk.out (own_row4 (own_base (base' := w.heap.size + 1) Ho3.out (by omega)) (by omega) _ _ _ _) (ext_row4 hx3 (Nat.le_refl _) _ _ _ _)
end Go.Proofs.Ytkebkhgjoiiapaa
