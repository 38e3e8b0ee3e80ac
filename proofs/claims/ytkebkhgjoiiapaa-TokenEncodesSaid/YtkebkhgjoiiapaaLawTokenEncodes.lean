/- TokenEncodes answers true. -/
import Derived.Test.YtkebkhgjoiiapaaTokAwake
namespace Go.Proofs.Ytkebkhgjoiiapaa
open Go.RowKit

set_option maxHeartbeats 4000000 in
set_option maxRecDepth 100000 in
theorem tokenEncodes_walk (w : World) (p s : Int) (A : Option Addr) (n c : Nat) (xs : List Nat) (hl : xs.length = n) (hb : ∀ x ∈ xs, x < 256) (hr : Rd w A (vals .u8 xs)) (_hnc : n ≤ c) (hz : n ≤ 140737488351232) :
    Calls Try.prog 7 #[tokV p A n c s] w (RetTrue w) := by
  have Hl := Lib.hid hl; have Hb := Lib.hid hb; have Hr := Lib.hid hr; clear hl hb hr
  go_enter Try.func7, Try.ntmps7
  go_wp2_with fail
  refine (tokAwake _).mono ?_
  rintro e w1 ⟨rfl, hx1⟩
  have hx1' : Ext w w1 := ((Ext.refl w).alloc _).trans hx1
  have k0 : Hid (w1.heap[w.heap.size]? = some (.cells #[.int .i64 p, .slice A n c, .int .i64 s] 56 (0, 0))) := blk_ext (blk_new w _) hx1
  have c0 := blk_cell k0.out 0; have c1 := blk_cell k0.out 1; have c2 := blk_cell k0.out 2
  go_wp2_with fail
  refine (spare_any A n c xs w1 Hl.out hz (Hr.out.ext hx1')).mono ?_
  rintro e w2 ⟨A2, cap2, rfl, hf, hy2⟩
  rw [Hl.out] at hf ⊢
  have hx2 := hx1'.trans hy2
  have hcf := own_cap hf
  have hrf := Lib.hid (Rd.of_own hf)
  have hrk := Lib.hid (rd_take hrf.out)
  have k2 : Hid (w2.heap[w.heap.size]? = some (.cells #[.int .i64 p, .slice A n c, .int .i64 s] 56 (0, 0))) := blk_ext k0.out hy2
  have d0 := blk_cell k2.out 0; have d1 := blk_cell k2.out 1; have d2 := blk_cell k2.out 2
  clear c0 c1 c2 hf
  have hcases : (∃ q : Int, (q == 0) = false ∧ (∀ w' B d, Calls Try.prog 30 #[tokV p B n d s] w' (RetE (.tuple #[.slice none 0 0, .int .i64 q]) w')) ∧ (∀ w' B d, Calls Try.prog 31 #[tokV p B n d s] w' (RetE (.tuple #[.slice none 0 0, .int .i64 q]) w'))) ∨
      (∃ P S : Nat, p = (P : Int) ∧ s = (S : Int) ∧ P < 32 ∧ 1 ≤ S ∧ S ≤ 4611686018427387903 ∧ n ≤ 255) := by
    by_cases h1 : s < 1 ∨ 4611686018427387903 < s ∨ p < 0 ∨ 32 ≤ p
    · exact .inl ⟨1, rfl, fun w' B d => tokEncode_arg w' p s B n d h1, fun w' B d => refDocEnc_arg w' p s B n d h1⟩
    · by_cases h2 : 255 < n
      · exact .inl ⟨2, rfl, fun w' B d => tokEncode_long w' p s B n d (by omega) (by omega) (by omega) (by omega) h2, fun w' B d => refDocEnc_long w' p s B n d (by omega) (by omega) (by omega) (by omega) h2⟩
      · exact .inr ⟨p.toNat, s.toNat, by omega, by omega, by omega, by omega, by omega, by omega⟩
  rcases hcases with ⟨q, hq, C1, C2⟩ | ⟨P, S, rfl, rfl, hP, hS1, hS2, hn⟩
  · have C1 := Lib.hid C1; have C2 := Lib.hid C2
    go_wp2_with fail
    refine (C1.out w2 A2 cap2).mono ?_
    rintro e w3 ⟨rfl, hy3⟩
    have hq' : (q != 0) = true := by simp [bne, hq]
    have k3 : Hid (w3.heap[w.heap.size]? = some (.cells #[.int .i64 p, .slice A n c, .int .i64 s] 56 (0, 0))) := blk_ext k2.out hy3
    have e0 := blk_cell k3.out 0; have e1 := blk_cell k3.out 1; have e2 := blk_cell k3.out 2
    clear d0 d1 d2
    go_wp2_with fail
    refine (C2.out w3 A c).mono ?_
    rintro e w4 ⟨rfl, hy4⟩
    clear e0 e1 e2
    go_wp2_with fail
    refine (toE_q (same_any none none 0 0 0 0 [] [] w4 rfl rfl (by omega) (by simp) (by simp) (Rd.nil _ _) (Rd.nil _ _))).mono ?_
    rintro e w5 ⟨rfl, hy5⟩
    rw [show same [] [] = true by decide]
    have hy25 := (hy3.trans hy4).trans hy5
    have k5 : Hid (w5.heap[w.heap.size]? = some (.cells #[.int .i64 p, .slice A n c, .int .i64 s] 56 (0, 0))) := blk_ext k2.out hy25
    have g1 := blk_cell k5.out 1
    have hx5 := hx2.trans hy25
    have C3 := Lib.hid (kept_true A2 A n (n + 3) cap2 c xs w5 Hl.out rfl hcf (by omega) Hb.out (hrf.out.ext hy25) (Hr.out.ext hx5))
    go_wp2_with fail
    refine (toE_q C3.out).mono ?_
    rintro e w6 ⟨rfl, hy6⟩
    go_wp2_with fail
    go_ret
    exact retTrue (hx5.trans hy6)
  · go_wp2_with fail
    refine (tokEncode_ok w2 P S A2 n cap2 xs Hl.out Hb.out hrk.out hS1 hS2 hP hn).mono ?_
    rintro e w3 ⟨A3, c3, rfl, hown3, hy3⟩
    have hL : (tokB P xs S).length = n + 16 := by rw [tokB_len, Hl.out]
    rw [hL] at hown3 ⊢
    have HL := Lib.hid hL; clear hL
    have hc3 := own_cap hown3
    have hr3 := Lib.hid (Rd.of_own hown3)
    have k3 : Hid (w3.heap[w.heap.size]? = some (.cells #[.int .i64 P, .slice A n c, .int .i64 S] 56 (0, 0))) := blk_ext k2.out hy3
    have e0 := blk_cell k3.out 0; have e1 := blk_cell k3.out 1; have e2 := blk_cell k3.out 2
    have hx3 := hx2.trans hy3
    clear d0 d1 d2 hown3
    go_wp2_with fail
    refine (refDocEnc_ok w3 P S A n c xs Hl.out Hb.out (Hr.out.ext hx3) hS1 hS2 hP hn).mono ?_
    rintro e w4 ⟨A4, c4, rfl, hown4, hy4⟩
    rw [HL.out] at hown4 ⊢
    have hr4 := Lib.hid (Rd.of_own hown4)
    have htb : ∀ x ∈ tokB P xs S, x < 256 := fun x hx => by
      simp only [tokB, bodyT, List.mem_append, List.mem_cons] at hx
      rcases hx with (rfl | rfl | rfl | rfl | hx | hx) | hx
      · omega
      · omega
      · omega
      · have := Hl.out; omega
      · exact Hb.out x hx
      · exact wordB_lt _ _ x hx
      · exact wordB_lt _ _ x hx
    have Htb := Lib.hid htb
    clear e0 e1 e2 hown4 htb
    go_wp2_with fail
    refine (toE_q (same_any A3 A4 (n + 16) c3 (n + 16) c4 _ _ w4 HL.out HL.out (by omega) Htb.out Htb.out (hr3.out.ext hy4) hr4.out)).mono ?_
    rintro e w5 ⟨rfl, hy5⟩
    rw [show same (tokB P xs S) (tokB P xs S) = true from decide_eq_true rfl]
    have hy25 := (hy3.trans hy4).trans hy5
    have k5 : Hid (w5.heap[w.heap.size]? = some (.cells #[.int .i64 P, .slice A n c, .int .i64 S] 56 (0, 0))) := blk_ext k2.out hy25
    have g1 := blk_cell k5.out 1
    have hx5 := hx2.trans hy25
    have C3 := Lib.hid (kept_true A2 A n (n + 3) cap2 c xs w5 Hl.out rfl hcf (by omega) Hb.out (hrf.out.ext hy25) (Hr.out.ext hx5))
    go_wp2_with fail
    refine (toE_q C3.out).mono ?_
    rintro e w6 ⟨rfl, hy6⟩
    clear g1
    go_wp2_with fail
    refine (decode_ok w6 P S n A3 (n + 16) c3 xs Hl.out rfl Hb.out (hr3.out.ext ((hy4.trans hy5).trans hy6)) hc3 hS1 hS2 hP hn).mono ?_
    rintro e w7 ⟨A7, c7, rfl, hown7, hy7⟩
    rw [Hl.out] at hown7 ⊢
    have hr7 := Lib.hid (Rd.of_own hown7)
    have hx7 := (hx5.trans hy6).trans hy7
    have k7 := blk_ext k5.out (hy6.trans hy7)
    have j0 := cell_past (blk_cell k7 0); have j1 := cell_past (blk_cell k7 1); have j2 := cell_past (blk_cell k7 2)
    clear k7 hown7
    go_wp2_with fail
    refine (tokSame_any _ P P S S A7 A n c7 n c xs xs Hl.out Hl.out (by omega) Hb.out Hb.out (hr7.out.alloc _) ((Hr.out.ext hx7).alloc _)).mono ?_
    rintro e w8 ⟨rfl, hy8⟩
    rw [show decide ((P : Int) = P ∧ xs = xs ∧ (S : Int) = S) = true by simp]
    go_wp2_with fail
    go_ret
    exact retTrue (hx7.trans (((Ext.refl w7).alloc _).trans hy8))
end Go.Proofs.Ytkebkhgjoiiapaa
