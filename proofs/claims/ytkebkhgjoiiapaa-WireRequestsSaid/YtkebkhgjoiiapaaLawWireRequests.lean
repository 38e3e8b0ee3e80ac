/- WireRequests answers true. -/
import Derived.Test.YtkebkhgjoiiapaaWireAwake
import Derived.Test.YtkebkhgjoiiapaaWireC
import Derived.Test.YtkebkhgjoiiapaaCall4
import Derived.Test.YtkebkhgjoiiapaaDocRead
import Derived.Deep.RegionHeld3
import Derived.Deep.DeepCutAuto
namespace Go.Proofs.Ytkebkhgjoiiapaa
open Go.RowKit

set_option maxHeartbeats 8000000 in
set_option maxRecDepth 100000 in
theorem wireRequests_walk (w : World) (o : Nat) (ho : o < 256) (p N : Int) (A : Option Addr) (n c : Nat) (xs : List Nat) (hl : xs.length = n) (hb : ∀ x ∈ xs, x < 256) (hr : Rd w A (vals .u8 xs)) (_hnc : n ≤ c) (hz : n ≤ 140737488351232) :
    Calls Try.prog 11 #[callV (o : Int) p A n c N] w (RetTrue w) := by
  obtain ⟨q, L, hI, hC1, hC2⟩ := req_cases o ho p N n xs hl hb
  have Hl := Lib.hid hl; have Hb := Lib.hid hb; have Hr := Lib.hid hr; have HC1 := Lib.hid hC1; have HC2 := Lib.hid hC2; have HI := Lib.hid hI; clear hl hb hr hC1 hC2 hI
  obtain ⟨k, Hk⟩ : ∃ k, Hid (L.length = k) := ⟨_, rfl⟩
  go_enter Try.func11, Try.ntmps11
  go_wp2_with fail
  refine (wireAwake _).mono ?_
  rintro e w1 ⟨rfl, hx1⟩
  have hx1' : Ext w w1 := ((Ext.refl w).alloc _).trans hx1
  have K1 := Lib.hid (blk_ext (blk_new w (.cells #[.int .u8 (o : Int), .int .i64 p, .slice A n c, .int .i64 N] 71 (0, 0))) hx1)
  have c2 := blk_cell K1.out 2
  go_wp2_with fail
  refine (spare_any A n c xs w1 Hl.out hz (Hr.out.ext hx1')).mono ?_
  rintro e w2 ⟨A2, cap2, rfl, hf, hy2⟩
  rw [Hl.out] at hf ⊢
  have hx2 := hx1'.trans hy2
  have hcf := own_cap hf
  have hrf := Lib.hid (Rd.of_own hf)
  have hrk := Lib.hid (rd_take hrf.out)
  have K2 := Lib.hid (blk_ext K1.out hy2)
  clear c2 hf K1
  have d0 := blk_cell K2.out 0; have d1 := blk_cell K2.out 1; have d2 := blk_cell K2.out 2; have d3 := blk_cell K2.out 3
  have j0 := cell_past d0; have j1 := cell_past d1; have j2 := cell_past d2; have j3 := cell_past d3
  go_wp2_with fail
  refine (HC1.out A2 cap2 _ (hrk.out.alloc _)).mono ?_
  rintro e w3 ⟨A3, c3, rfl, ho3, hy3⟩
  rw [Hk.out] at ho3 ⊢
  have hc3 := own_cap ho3
  have R3 := Lib.hid (Rd.of_own ho3)
  have hy23 : Ext w2 w3 := ((Ext.refl w2).alloc _).trans hy3
  have hx3 := hx2.trans hy23
  have K3 := Lib.hid (blk_ext K2.out hy23)
  clear d0 d1 d2 d3 j0 j1 j2 j3 ho3 hy3
  have d0 := blk_cell K3.out 0; have d1 := blk_cell K3.out 1; have d2 := blk_cell K3.out 2; have d3 := blk_cell K3.out 3
  go_wp2_with fail
  refine (HC2.out A c w3 (Hr.out.ext hx3)).mono ?_
  rintro e w4 ⟨A4, c4, rfl, ho4, hy4⟩
  rw [Hk.out] at ho4 ⊢
  have R4 := Lib.hid (Rd.of_own ho4)
  have hx4 := hx3.trans hy4
  have K4 := Lib.hid (blk_ext K3.out hy4)
  clear d0 d1 d2 d3 ho4 K3
  have hLs : L.length ≤ 1000 ∧ ∀ x ∈ L, x < 256 := by
    rcases HI.out with ⟨_, rfl, _⟩ | ⟨_, P, M, _, _, hR, rfl⟩
    · simp
    · refine ⟨?_, reqB_lt hR Hb.out⟩
      by_cases h5 : o < 5
      · exact reqB_len (hR.2.2.1 h5).2
      · rw [reqB_56 (by have := hR.1; have := hR.2.1; omega)]; simp
  have HLb := Lib.hid hLs.2
  have hk1000 : k ≤ 1000 := by have := hLs.1; rw [Hk.out] at this; exact this
  clear hLs
  have S := Lib.hid (toE_q (same_any A3 A4 k c3 k c4 L L w4 Hk.out Hk.out (by omega) HLb.out HLb.out (R3.out.ext hy4) R4.out))
  go_wp2_with fail
  refine S.out.mono ?_
  rintro e w5 ⟨rfl, hy5⟩
  rw [show same L L = true from decide_eq_true rfl]
  have hx5 := hx4.trans hy5
  have K5 := Lib.hid (blk_ext K4.out hy5)
  have hy25 := (hy23.trans hy4).trans hy5
  have d2 := blk_cell K5.out 2
  have C3 := Lib.hid (kept_true A2 A n (n + 3) cap2 c xs w5 Hl.out rfl hcf (by omega) Hb.out (hrf.out.ext hy25) (Hr.out.ext hx5))
  have R3' := Lib.hid (R3.out.ext (hy4.trans hy5))
  clear S R4 R3 K4
  go_wp2_with fail
  refine (toE_q C3.out).mono ?_
  rintro e w6 ⟨rfl, hy6⟩
  have hx6 := hx5.trans hy6
  have K6 := Lib.hid (blk_ext K5.out hy6)
  have R6 := Lib.hid (R3'.out.ext hy6)
  clear d2 C3 R3' K5
  rcases HI.out with ⟨hq, _, _⟩ | ⟨rfl, P, M, hp, hN, hR, hL⟩
  · have hq' : (q != 0) = true := by simp [bne, hq]
    go_wp2_with fail
    go_ret
    exact retTrue hx6
  · obtain ⟨p', xs', N', hNorm, hL', n1, n2, n3, n4⟩ := norm_of hR Hb.out
    have hB : Begins L o p' xs' N' [] := ⟨hNorm, by rw [hL, hL', List.append_nil], fun _ => rfl⟩
    obtain ⟨A7, n7, c7, hl7, hr7, hU⟩ := used_cases o p N A n c xs Hl.out p' xs' N' n1 (fun h => ⟨by rw [hp (by omega), (n2 h).1], (n2 h).2⟩) n3 (fun h h' => by rw [hN (by have := hR.1; omega), n4 (by have := hR.1; omega)])
    have HU := Lib.hid hU; have Hr7 := Lib.hid hr7; have Hl7 := Lib.hid hl7; have HB := Lib.hid hB; have Hxb' := Lib.hid hNorm.2.1
    clear hp hN hR hL n1 n2 n3 n4 hB hU hr7 hl7 hNorm hL' HI
    go_wp2_with fail
    refine (readReq_ok w6 A3 k c3 L xs' o p' N' Hk.out (by omega) hc3 HLb.out R6.out HB.out).mono ?_
    rintro e w7 ⟨A5, c5, rfl, ho5, hy7⟩
    have R5 := Lib.hid (Rd.of_own ho5)
    have hx7 := hx6.trans hy7
    have K7 := Lib.hid (blk_ext K6.out hy7)
    clear ho5 K6 R6
    obtain ⟨W, hW⟩ : ∃ W, w7.alloc (.cells #[.int .u8 (o : Int), .int .i64 (p' : Int), .slice A5 xs'.length c5, .int .i64 (N' : Int)] 71) = W := ⟨_, rfl⟩
    have hyW : Ext w7 W := by rw [← hW]; exact (Ext.refl w7).alloc _
    have KD : Hid (W.heap[w7.heap.size]? = some (.cells #[.int .u8 (o : Int), .int .i64 (p' : Int), .slice A5 xs'.length c5, .int .i64 (N' : Int)] 71 (0, 0))) := by rw [← hW]; exact blk_new _ _
    have KW := Lib.hid (blk_ext K7.out hyW)
    have hxW := hx7.trans hyW
    have hxlen : xs'.length ≤ 9223372036854775807 := by have := HB.out.1; have h9 := norm_len this; omega
    have D2 := Lib.hid (fun V A7' n7' c7' (hx : Ext W V) (hl : xs'.length = n7') (hr : Rd V A7' (vals .u8 xs')) => callSame_any V (o : Int) o (p' : Int) p' (N' : Int) N' A5 A7' xs'.length c5 n7' c7' xs' xs' rfl hl hxlen Hxb'.out Hxb'.out ((R5.out.ext hyW).ext hx) hr)
    go_upto_region 13 with fail
    clear hW hyW
    have t0 := blk_cell KD.out 0; have t1 := blk_cell KD.out 1; have t2 := blk_cell KD.out 2; have t3 := blk_cell KD.out 3
    have u0 := blk_cell KW.out 0; have u1 := blk_cell KW.out 1; have u2 := blk_cell KW.out 2; have u3 := blk_cell KW.out 3
    have hWd : Ext W W.drew := (Ext.refl W).drew
    go_region_held3 (fun w' => w'.cell? ⟨w7.heap.size, 0, none⟩ = some (.int .u8 (o : Int)) ∧ w'.cell? ⟨w7.heap.size, 1, none⟩ = some (.int .i64 (p' : Int)) ∧ w'.cell? ⟨w7.heap.size, 2, none⟩ = some (.slice A5 xs'.length c5) ∧ w'.cell? ⟨w7.heap.size, 3, none⟩ = some (.int .i64 (N' : Int)) ∧
        w'.cell? ⟨w.heap.size, 0, none⟩ = some (.int .u8 (o : Int)) ∧ w'.cell? ⟨w.heap.size, 1, none⟩ = some (.int .i64 p) ∧ w'.cell? ⟨w.heap.size, 2, none⟩ = some (.slice A n c) ∧ w'.cell? ⟨w.heap.size, 3, none⟩ = some (.int .i64 N))
      (((try go_split_ands); refine ⟨?_, ?_, ?_, ?_, ?_, ?_, ?_, ?_⟩ <;> first | assumption | exact ext_cell (by assumption) (by assumption)))
      (first
        | (go_at_call 44; refine (HU.out W.drew).mono ?_; rintro e8 w8 ⟨rfl, hy8⟩; have HY8 := Lib.hid (hWd.trans hy8))
        | (go_at_call 43; refine (D2.out w8 A7 n7 c7 HY8.out Hl7.out (Hr7.out w8 (Hr.out.ext (hxW.trans HY8.out)))).mono ?_; rintro e9 w9 ⟨rfl, hy9⟩; have HY9 := Lib.hid hy9))
    all_goals
      go_wp2_with fail
      go_ret
      refine ⟨ret_bool (by simp), (hxW.trans HY8.out).trans HY9.out⟩
end Go.Proofs.Ytkebkhgjoiiapaa
