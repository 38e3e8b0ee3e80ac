/- ConnHang answers true. -/
import Derived.Test.YthkdjjfnmlemdaaBConnHang6
import Derived.BigQuiet
namespace Go.Proofs.Ythkdjjfnmlemdaa
open Go.RowKit

def cH : CCall := ⟨2, 3, [113], 0⟩
theorem normH : NormC cH.op cH.pol cH.key cH.num := by
  show NormC 2 3 [113] 0
  exact ⟨⟨by omega, by omega, fun _ => ⟨by omega, by simp⟩, (fun h => by cases h), (fun h => by cases h)⟩, (fun x hx => by simp at hx; omega), (fun h => by omega), fun _ => rfl⟩
/-- the line of ConnHang -/
structure HangAt (w1 : World) (gc r k : Nat) (s : CSt) (wr : World) : Prop where
  cn : ConnIn wr w1.heap.size gc r s []
  ci : CInv s
  ln : ∃ rest, s.line = cH :: rest ∧ rest.length ≤ k ∧ rest.length ≤ 20
  st : s.ws = [] ∧ s.cl = false ∧ s.fin = 0 ∧ s.closed = false ∧ s.hung = false ∧ s.out = none ∧ s.wr = [] ∧ s.led = []
  ex : Ext w1 wr
theorem HangAt.ext {w1 : World} {gc r k : Nat} {s : CSt} {wr w' : World} (h : HangAt w1 gc r k s wr) (x : Ext wr w') : HangAt w1 gc r (k + 1) s w' :=
  ⟨h.cn.ext x, h.ci, by obtain ⟨rest, e1, e2, e3⟩ := h.ln; exact ⟨rest, e1, by omega, e3⟩, h.st, h.ex.trans x⟩
set_option maxHeartbeats 16000000 in
set_option maxRecDepth 100000 in
theorem connHang_walk (w : World) (A : Option Addr) (n c : Nat) (R : List CallA) (hl : R.length = n) (hb : ∀ r ∈ R, CallAOk w r) (hr : Rd w A (R.flatMap callAVals)) (hnc : n ≤ c) (hz : n ≤ 140737488351232) (sv : Int) (_hs1 : -9223372036854775808 ≤ sv) (hs2 : sv ≤ 9223372036854775807) (g : Bool) :
    Calls Try.prog 14 #[.slice A n c, .int .i64 sv, .bool g] w (RetTrue w) := by
  have Hl := Lib.hid hl; have Hb := Lib.hid hb; have Hr := Lib.hid hr; clear hl hb hr
  go_enter Try.func14, Try.ntmps14
  go_wp2_with fail
  refine (cawake _).mono ?_
  rintro e w1 ⟨rfl, x1⟩
  go_wp2_with fail
  refine (cin_new w1).mono ?_
  rintro e w2 ⟨gc, r, rfl, h2, x2⟩
  have H2 := Lib.hid h2; have X2 := Lib.hid x2; have X1 := Lib.hid x1
  clear h2 x1 x2
  have kc := Lib.run_convert_bytes_const (P := Try.prog) w2 28 5 #[.int .u8 113] 1 1 Try.underlying28 Try.underlying5
  obtain ⟨FL, HFL⟩ : ∃ FL, Hid (frameOf cH = FL) := ⟨_, rfl⟩
  obtain ⟨fn, Hfn⟩ : ∃ fn, Hid (FL.length = fn) := ⟨_, rfl⟩
  have RQ := crequest_norm cH normH 1 rfl (some ⟨w2.heap.size, 0, none⟩) 1 _ (rd_mark w2 [.int .u8 113] 5 (1, 2))
  rw [HFL.out] at RQ
  unfold RetFr at RQ
  dsimp only at RQ
  rw [Hfn.out] at RQ
  have RQh := Lib.hid RQ
  clear RQ
  go_wp2_with fail
  refine RQh.out.mono ?_
  rintro e w3 ⟨g3, c3, rfl, o3, x3⟩
  have X3 := Lib.hid (((Ext.refl w2).alloc (.cells #[.int .u8 113] 5 (1, 2))).trans x3)
  have FD := Lib.hid (cin_feed_one w3 w1.heap.size gc r cInit [] (H2.out.ext X3.out) cinv_init ⟨rfl, rfl, rfl, rfl⟩ (by decide) cH normH _ c3 FL HFL.out fn Hfn.out (Rd.of_own o3))
  clear o3 x3 kc RQh
  go_wp2_with fail
  refine FD.out.mono ?_
  rintro e w4 ⟨rfl, h4, g4⟩
  have HG4 := Lib.hid (show HangAt w1 gc r 0 { cInit with line := [cH] } w4 from ⟨h4, ⟨(fun x h => by cases h), (fun d hd => by rw [List.mem_singleton.1 hd]; exact normH), (fun d hd => by cases hd), (fun x h => by cases h), (fun t h => by cases h)⟩, ⟨[], rfl, Nat.le_refl _, Nat.zero_le _⟩, ⟨rfl, rfl, rfl, rfl, rfl, rfl, rfl, rfl⟩, g4.out (X2.out.trans X3.out)⟩)
  clear h4 g4 FD
  go_wp2_with fail
  go_loopw [31] (fun i wr => ∃ (k : Nat) (s : CSt), k ≤ n ∧ i = .int .i64 (k : Int) ∧ HangAt w1 gc r k s wr) (fun i _ => n - (intOf i).toNat)
  case atStart => exact ⟨0, _, Nat.zero_le _, rfl, HG4.out⟩
  case round =>
    obtain ⟨k, s, hk, rfl, hg⟩ := hrel
    have HG := Lib.hid hg
    clear hg
    by_cases hlt : k < n
    · obtain ⟨q, hq⟩ : ∃ q, R[k]? = some q := ⟨_, List.getElem?_eq_getElem (by rw [Hl.out]; exact hlt)⟩
      obtain ⟨hq1, hq2, hq3, hq4, hq5, hq6, hq7⟩ := Hb.out q (List.mem_of_getElem? hq)
      have hg := fun j hj => flat_get callAVals 4 R (fun _ _ => rfl) k q hq j hj
      obtain ⟨b, off, hA, hcell⟩ := (Hr.out.ext (X1.out.trans HG.out.ex)) (fun e0 => by have := hg 0 (by omega); rw [e0] at this; simp [callAVals] at this)
      have d0 := hcell (k * 4 + 0) _ (hg 0 (by omega))
      have d1 := hcell (k * 4 + 1) _ (hg 1 (by omega))
      have d2 := hcell (k * 4 + 2) _ (hg 2 (by omega))
      have d3 := hcell (k * 4 + 3) _ (hg 3 (by omega))
      rw [← Nat.add_assoc] at d0 d1 d2 d3
      rw [Nat.add_zero] at d0
      obtain ⟨op, who, K, cap, key, val⟩ := q
      dsimp only at hq1 hq2 hq3 hq4 hq5 hq6 hq7 d0 d1 d2 d3
      subst hA
      obtain ⟨kl, Hkl⟩ : ∃ kl, Hid (key.length = kl) := ⟨_, rfl⟩
      rw [Hkl.out] at d2
      obtain ⟨F, hF, hF2, hC⟩ := crequest_any op hq2 who val kl key Hkl.out hq3
      have xb := (Ext.refl wr).alloc (.cells #[.int .u8 (op : Int), .int .i64 who, .slice K kl cap, .int .i64 val] 63)
      have RQ := Lib.hid (hC K cap _ ((hq6.ext (X1.out.trans HG.out.ex)).ext xb))
      have HF := Lib.hid hF; have HF2 := Lib.hid hF2; have HQ3 := Lib.hid hq3; have XB := Lib.hid xb
      clear hq hq1 hq2 hq3 hq4 hq5 hq6 hq7 hg hcell hF hF2 hC xb
      cases F with
      | none =>
        unfold RetFr at RQ
        dsimp only at RQ
        by_cases h20 : k < 20
        · have i20 : (k : Int) < 20 := by omega
          have i20d : decide ((k : Int) < 20) = true := decide_eq_true i20
          clear h20
          go_wp2_with fail
          refine RQ.out.mono ?_
          rintro e w5 ⟨rfl, x5⟩
          have X5 := Lib.hid (XB.out.trans x5)
          clear x5
          go_wp2_with fail
          go_roundw
          case rel => exact ⟨k + 1, s, hlt, by go_num, HG.out.ext X5.out⟩
          case measure => simp [intOf]; omega
        · have i20 : ¬ (k : Int) < 20 := by omega
          have i20d : decide ((k : Int) < 20) = false := decide_eq_false i20
          clear h20
          go_wp2_with fail
          refine RQ.out.mono ?_
          rintro e w5 ⟨rfl, x5⟩
          have X5 := Lib.hid (XB.out.trans x5)
          clear x5
          go_wp2_with fail
          go_roundw
          case rel => exact ⟨k + 1, s, hlt, by go_num, HG.out.ext X5.out⟩
          case measure => simp [intOf]; omega
      | some L =>
        unfold RetFr at RQ
        dsimp only at RQ
        obtain ⟨ln, Hln⟩ : ∃ ln, Hid (L.length = ln) := ⟨_, rfl⟩
        rw [Hln.out] at RQ
        by_cases h20 : k < 20
        · have i20 : (k : Int) < 20 := by omega
          have i20d : decide ((k : Int) < 20) = true := decide_eq_true i20
          obtain ⟨cl, hno, hfr⟩ : ∃ cl : CCall, NormC cl.op cl.pol cl.key cl.num ∧ frameOf cl = L := by
            rcases HF.out with ⟨h, _⟩ | ⟨P, M, _, _, h3, h4⟩
            · cases h
            · obtain ⟨cl, k1, k2, -⟩ := norm_of h3 HQ3.out
              injection h4 with h4
              exact ⟨cl, k1, by unfold frameOf; rw [k2, h4]⟩
          have FD := Lib.hid (fun (u : World) (x : Ext wr u) (g9 c9 : Nat) (hr9 : Rd u (some ⟨g9, 0, none⟩) (vals .u8 L)) => cin_feed_one u w1.heap.size gc r s [] (HG.out.cn.ext x) HG.out.ci ⟨HG.out.st.1, HG.out.st.2.1, HG.out.st.2.2.1, HG.out.st.2.2.2.1⟩ (by obtain ⟨rest, e1, e2, e3⟩ := HG.out.ln; rw [e1]; simp; omega) cl hno (some ⟨g9, 0, none⟩) c9 L hfr ln Hln.out hr9)
          have HNO := Lib.hid hno
          clear hno hfr
          go_wp2_with fail
          refine RQ.out.mono ?_
          rintro e w5 ⟨g5, c5, rfl, o5, x5⟩
          have X5 := Lib.hid (XB.out.trans x5)
          have R5 := Lib.hid (Rd.of_own o5)
          clear x5 o5
          go_wp2_with fail
          refine (FD.out w5 X5.out g5 c5 R5.out).mono ?_
          rintro e w6 ⟨rfl, h6, g6⟩
          have HG6 := Lib.hid (show HangAt w1 gc r (k + 1) { s with line := s.line ++ [cl] } w6 from ⟨h6, ⟨HG.out.ci.1, (fun d hd => by
            rcases List.mem_append.1 hd with hd | hd
            · exact HG.out.ci.2.1 d hd
            · rw [List.mem_singleton.1 hd]; exact HNO.out), HG.out.ci.2.2.1, HG.out.ci.2.2.2.1, HG.out.ci.2.2.2.2⟩, (by
            obtain ⟨rest, e1, e2, e3⟩ := HG.out.ln
            exact ⟨rest ++ [cl], by dsimp only; rw [e1]; rfl, by simp; omega, by simp; omega⟩), HG.out.st, g6.out (HG.out.ex.trans X5.out)⟩)
          clear h6 g6
          go_wp2_with fail
          go_roundw
          case rel => exact ⟨k + 1, _, hlt, by go_num, HG6.out⟩
          case measure => simp [intOf]; omega
        · have i20 : ¬ (k : Int) < 20 := by omega
          have i20d : decide ((k : Int) < 20) = false := decide_eq_false i20
          clear h20
          go_wp2_with fail
          refine RQ.out.mono ?_
          rintro e w5 ⟨g5, c5, rfl, o5, x5⟩
          have X5 := Lib.hid (XB.out.trans x5)
          clear x5 o5
          go_wp2_with fail
          go_roundw
          case rel => exact ⟨k + 1, s, hlt, by go_num, HG.out.ext X5.out⟩
          case measure => simp [intOf]; omega
    · obtain rfl : k = n := by omega
      obtain ⟨rest, hln, hr1, hr2⟩ := HG.out.ln
      have HLN := Lib.hid hln
      clear hln
      have NX := Lib.hid (cin_next wr w1.heap.size gc r s [] HG.out.cn HG.out.st.2.2.2.2.2.1 HG.out.st.2.2.2.1 cH rest HLN.out (by decide))
      go_wp2_with fail
      refine NX.out.mono ?_
      rintro e w5 ⟨A5, k5, rfl, h5, g5⟩
      obtain ⟨s6, Hs6⟩ : ∃ s6 : CSt, Hid (hangS { s with line := rest, out := some cH } = s6) := ⟨_, rfl⟩
      have P6 : Hid (s6.closed = true ∧ s6.hung = true ∧ s6.line = [] ∧ s6.out = some cH ∧ s6.wr = [] ∧ s6.led = []) := by
        rw [← Hs6.out]
        exact ⟨rfl, rfl, rfl, rfl, HG.out.st.2.2.2.2.2.2.1, HG.out.st.2.2.2.2.2.2.2⟩
      have CI6 : Hid (CInv s6) := by rw [← Hs6.out]; exact cinv_hang (cinv_next HG.out.ci HLN.out)
      have E5 := Lib.hid (g5.out HG.out.ex)
      go_upto_region 14 with fail
      obtain ⟨W6, hW6⟩ : ∃ W6, w5.alloc (.cells #[.int .u8 (cH.op : Int), .int .i64 (cH.pol : Int), .slice A5 cH.key.length k5, .int .i64 (cH.num : Int)] 63) = W6 := ⟨_, rfl⟩
      have x6 : Ext w5 W6 := by rw [← hW6]; exact (Ext.refl w5).alloc _
      first | rw [hW6] | (rw [show w5.alloc _ = W6 from hW6])
      clear hW6
      have hu := cin_hangup W6 w1.heap.size gc r _ [] (h5.ext x6) (by show s.led.length ≤ _; rw [HG.out.st.2.2.2.2.2.2.2]; decide) (by show ∀ t ∈ s.led, _; rw [HG.out.st.2.2.2.2.2.2.2]; exact fun t h => by cases h)
      rw [Hs6.out] at hu
      dsimp only at hu
      rw [HG.out.st.2.2.2.2.2.2.2, List.length_nil] at hu
      have HU := Lib.hid hu
      have E6 := Lib.hid (E5.out.trans x6)
      clear hu h5 g5 x6 NX
      go_wp2_with fail
      refine HU.out.mono ?_
      rintro e w7 ⟨LA, lc, lks, rfl, h7, -, g7⟩
      have WT := cin_waiting w7 w1.heap.size gc r s6 [] h7
      have OP := cin_open w7 w1.heap.size gc r s6 [] h7
      rw [P6.out.2.2.1] at WT
      rw [P6.out.1] at OP
      have WTh := Lib.hid WT; have OPh := Lib.hid OP
      have E7 := Lib.hid (g7.out E6.out)
      have H7 := Lib.hid h7
      clear h7 g7 WT OP
      go_wp2_with fail
      refine WTh.out.mono ?_
      rintro e w8 ⟨rfl, rfl⟩
      go_wp2_with fail
      refine OPh.out.mono ?_
      rintro e w8 ⟨rfl, rfl⟩
      have NB := Lib.hid (cin_next_busy w7 w1.heap.size gc r s6 [] H7.out cH P6.out.2.2.2.1)
      go_wp2_with fail
      refine NB.out.mono ?_
      rintro e w8 ⟨rfl, x8⟩
      have X8 := Lib.hid x8
      clear x8
      go_upto_region 17 with fail
      obtain ⟨W9, hW9⟩ : ∃ W9, w8.alloc (.cells #[.int .u8 0, .int .i64 0, .slice none 0 0, .int .i64 0] 63) = W9 := ⟨_, rfl⟩
      have x9 : Ext w8 W9 := by rw [← hW9]; exact (Ext.refl w8).alloc _
      rw [hW9]
      clear hW9
      have H9 := Lib.hid (H7.out.ext (X8.out.trans x9))
      have E9 := Lib.hid (E7.out.trans (X8.out.trans x9))
      have FC := Lib.hid (cin_feed_closed W9 w1.heap.size gc r s6 [] H9.out (.inl P6.out.1) none 0 0)
      clear x9
      go_wp2_with fail
      refine FC.out.mono ?_
      rintro e w10 ⟨rfl, rfl⟩
      cases g with
      | false =>
        go_upto_region 22 with fail
        have xf9 := (Ext.refl W9).alloc (.cells #[.int .i64 9, .bool false, .int .i64 0, .int .i64 0, .int .i64 0, .int .i64 0] 74)
        have kf9 := blk_new W9 (.cells #[.int .i64 9, .bool false, .int .i64 0, .int .i64 0, .int .i64 0, .int .i64 0] 74)
        obtain ⟨WF, hWF⟩ : ∃ WF, W9.alloc (.cells #[.int .i64 9, .bool false, .int .i64 0, .int .i64 0, .int .i64 0, .int .i64 0] 74) = WF := ⟨_, rfl⟩
        rw [hWF] at xf9 kf9 ⊢
        clear hWF
        obtain ⟨br, hbr⟩ : ∃ br, W9.heap.size = br := ⟨_, rfl⟩
        rw [hbr] at kf9 ⊢
        have kf := kf9; have xf := xf9
        clear kf9 xf9
        have KF := Lib.hid (show WF.heap[br]? = some (.cells #[.int .i64 9, .bool false, .int .i64 0, .int .i64 0, .int .i64 0, .int .i64 0] 74 (0, 0)) from kf)
        have XF := Lib.hid xf
        have hbr1 : W9.heap.size ≤ br := by omega
        clear kf xf
        have HF := Lib.hid (H9.out.more XF.out (F' := [br]) (fun b hb => by rw [List.mem_singleton.1 hb]; exact .inr ⟨hbr1, blk_lt KF.out⟩))
        have RP := Lib.hid (cin_reply WF w1.heap.size gc r s6 [br] HF.out CI6.out (by rw [P6.out.2.2.2.2.1]; decide) (by rw [P6.out.2.2.2.2.2]; decide) cH P6.out.2.2.2.1 9 (by omega) false 0 0 0 0)
        have z0 := blk_cell KF.out 0; have z1 := blk_cell KF.out 1; have z2 := blk_cell KF.out 2; have z3 := blk_cell KF.out 3; have z4 := blk_cell KF.out 4; have z5 := blk_cell KF.out 5
        go_wp2_with fail
        refine RP.out.mono ?_
        rintro e wR ⟨q, B, hri, rfl, hR, gR⟩
        obtain rfl : q = 0 := rep_ok hri (by decide) (by intro x hx; simp at hx; unfold okN; omega)
        rw [if_pos rfl] at hR
        obtain ⟨s7, Hs7⟩ : ∃ s7 : CSt, Hid (repliedS s6 cH ((9 : Nat) : Int) 0 B = s7) := ⟨_, rfl⟩
        rw [Hs7.out] at hR
        have P7 : Hid (s7.closed = true ∧ s7.hung = true ∧ s7.out = none ∧ s7.wr = [] ∧ s7.led = ([] : List CTok)) := by
          rw [← Hs7.out]
          unfold repliedS wrote
          rw [if_neg (show ¬ ((0 : Int) = 0 ∧ s6.hung = false) by rw [P6.out.2.1]; simp)]
          exact ⟨P6.out.1, P6.out.2.1, rfl, P6.out.2.2.2.2.1, P6.out.2.2.2.2.2⟩
        have KR := Lib.hid (gR.blk KF.out (by simp))
        have ER := Lib.hid (gR.out (E9.out.trans XF.out))
        have tk := cin_take wR w1.heap.size gc r s7 [br] hR
        rw [P7.out.2.2.2.1, List.length_nil] at tk
        have TK := Lib.hid tk
        clear hR gR hri tk z0 z1 z2 z3 z4 z5 RP
        go_wp2_with fail
        refine TK.out.mono ?_
        rintro e wT ⟨WB, wd, rfl, hT, gT, -, bT⟩
        have KT := Lib.hid (gT.blk KR.out (by simp))
        have ET := Lib.hid (gT.out ER.out)
        have HT := Lib.hid hT
        clear hT gT bT TK
        have z0 := blk_cell KT.out 0; have z1 := blk_cell KT.out 1; have z2 := blk_cell KT.out 2; have z3 := blk_cell KT.out 3; have z4 := blk_cell KT.out 4; have z5 := blk_cell KT.out 5
        have RI := Lib.hid (cin_reply_idle wT w1.heap.size gc r _ [br] HT.out P7.out.2.2.1 ((9 : Nat) : Int) false 0 0 0 0)
        go_wp2_with fail
        refine RI.out.mono ?_
        rintro e wI ⟨q2, B2, hri2, rfl, xI⟩
        obtain rfl : q2 = 0 := rep_ok hri2 (by decide) (by intro x hx; simp at hx; unfold okN; omega)
        rw [if_pos rfl]
        have XI := Lib.hid xI
        have NC := Lib.hid (cin_next_closed wI w1.heap.size gc r _ [br] (HT.out.ext xI) P7.out.2.2.1 P7.out.1)
        clear hri2 xI z0 z1 z2 z3 z4 z5 RI
        go_wp2_with fail
        refine NC.out.mono ?_
        rintro e wN ⟨rfl, xN⟩
        have XN := Lib.hid (XI.out.trans xN)
        clear xN NC
        go_upto_region 25 with fail
        obtain ⟨WM, hWM⟩ : ∃ WM, wN.alloc (.cells #[.int .u8 0, .int .i64 0, .slice none 0 0, .int .i64 0] 63) = WM := ⟨_, rfl⟩
        have XM := Lib.hid (show Ext wT WM by rw [← hWM]; exact XN.out.alloc _)
        rw [hWM]
        clear hWM
        have hu2 := cin_hangup WM w1.heap.size gc r _ [br] (HT.out.ext XM.out) (by show s7.led.length ≤ _; rw [P7.out.2.2.2.2]; simp) (by show ∀ t ∈ s7.led, _; rw [P7.out.2.2.2.2]; exact fun t h => by cases h)
        dsimp only at hu2
        rw [P7.out.2.2.2.2] at hu2
        have HU2 := Lib.hid hu2
        clear hu2
        go_wp2_with fail
        refine HU2.out.mono ?_
        rintro e wH ⟨LB, lb, lks2, rfl, hH, hN, gH⟩
        have hl2 := cin_ledger wH w1.heap.size gc r _ [br] hH (by show List.length (([] : List CTok)) ≤ _; simp) (by show ∀ t ∈ (([] : List CTok) : List CTok), _; exact fun t h => by cases h)
        have LD := Lib.hid (show Calls Try.prog 57 #[.pointer (some ⟨gc, 0, none⟩)] wH (LedR ([] : List CTok) wH) from hl2)
        have KH := Lib.hid (gH.blk (blk_ext KT.out XM.out) (by simp))
        have EH := Lib.hid (gH.out (ET.out.trans XM.out))
        have HN := Lib.hid hN.rd
        clear hH hN gH hl2 HU2
        go_wp2_with fail
        refine LD.out.mono ?_
        rintro e wL ⟨LC, lcc, lks3, rfl, hN3, xL⟩
        have XL := Lib.hid xL
        have SM := Lib.hid (toksSame_true wL LB LC 0 lb lcc ([] : List CTok) lks2 lks3 rfl (by decide) (fun t h => by cases h) (HN.out.ext xL) hN3.rd)
        clear hN3 xL LD
        go_wp2_with fail
        refine SM.out.mono ?_
        rintro e wS ⟨rfl, qS, rfl⟩
        have XS := Lib.hid (XL.out.drewN qS)
        generalize wL.drewN qS = wZ at XS ⊢
        go_wp2_with fail
        go_ret
        exact retTrue (X1.out.trans (EH.out.trans XS.out))
      | true =>
        have CLM := Lib.hid (fun u => rclamp_any sv u hs2)
        obtain ⟨m0, Hm0⟩ : ∃ m0 : Int, Hid (min (max sv 0) 4611686018427387903 = m0) := ⟨_, rfl⟩
        rw [Hm0.out] at CLM
        obtain ⟨m, Hm⟩ : ∃ m : Int, Hid (max m0 1 = m) := ⟨_, rfl⟩
        have hmb : 1 ≤ m ∧ m ≤ 4611686018427387903 := by have := Hm0.out; have := Hm.out; omega
        go_upto_region 21 with fail
        have xz := (Ext.refl W9).alloc (.cells #[.int .i64 9, .bool false, .int .i64 0, .int .i64 0, .int .i64 0, .int .i64 0] 74)
        have kz := blk_new W9 (.cells #[.int .i64 9, .bool false, .int .i64 0, .int .i64 0, .int .i64 0, .int .i64 0] 74)
        obtain ⟨WZ, hWZ⟩ : ∃ WZ, W9.alloc (.cells #[.int .i64 9, .bool false, .int .i64 0, .int .i64 0, .int .i64 0, .int .i64 0] 74) = WZ := ⟨_, rfl⟩
        rw [hWZ] at xz kz ⊢
        clear hWZ
        have KZ := Lib.hid kz; have XZ := Lib.hid xz
        obtain ⟨br, hbr⟩ : ∃ br, W9.heap.size = br := ⟨_, rfl⟩
        rw [hbr] at KZ ⊢
        clear kz xz
        go_wp2_with fail
        refine (CLM.out WZ).mono ?_
        rintro e wc ⟨rfl, xc⟩
        have kz := blk_ext KZ.out xc
        have z0 := blk_cell kz 0; have z1 := blk_cell kz 1; have z2 := blk_cell kz 2; have z3 := blk_cell kz 3; have z4 := blk_cell kz 4; have z5 := blk_cell kz 5
        have t0 := blk_frozen kz 0; have t1 := blk_frozen kz 1; have t2 := blk_frozen kz 2; have t3 := blk_frozen kz 3; have t4 := blk_frozen kz 4; have t5 := blk_frozen kz 5
        have KC := Lib.hid kz; have XC := Lib.hid (XZ.out.trans xc)
        clear kz xc
        go_upto_region 22 with fail
        rw [Hm.out]
        clear z0 z1 z2 z3 z4 z5 t0 t1 t2 t3 t4 t5
        have kc9 := KC.out
        have xf9 : Ext W9 (((((( wc.setCell ⟨br, 0, none⟩ (.int .i64 0)).setCell ⟨br, 1, none⟩ (.bool true)).setCell ⟨br, 2, none⟩ (.int .i64 0)).setCell ⟨br, 3, none⟩ (.int .i64 0)).setCell ⟨br, 4, none⟩ (.int .i64 m)).setCell ⟨br, 5, none⟩ (.int .i64 0)) := GB.to_ext ((((((( GB.refl wc (· = br)).set br 0 _ (.inl rfl)).set br 1 _ (.inl rfl)).set br 2 _ (.inl rfl)).set br 3 _ (.inl rfl)).set br 4 _ (.inl rfl)).set br 5 _ (.inl rfl)) XC.out (fun i e => by omega)
        obtain ⟨WF, hWF⟩ : ∃ WF, (((((( wc.setCell ⟨br, 0, none⟩ (.int .i64 0)).setCell ⟨br, 1, none⟩ (.bool true)).setCell ⟨br, 2, none⟩ (.int .i64 0)).setCell ⟨br, 3, none⟩ (.int .i64 0)).setCell ⟨br, 4, none⟩ (.int .i64 m)).setCell ⟨br, 5, none⟩ (.int .i64 0)) = WF := ⟨_, rfl⟩
        have kf : WF.heap[br]? = some (.cells #[.int .i64 0, .bool true, .int .i64 0, .int .i64 0, .int .i64 m, .int .i64 0] 74 (0, 0)) := by rw [← hWF]; exact blk_set (blk_set (blk_set (blk_set (blk_set (blk_set kc9 0 _) 1 _) 2 _) 3 _) 4 _) 5 _
        rw [hWF] at xf9 ⊢
        clear hWF kc9
        have xf := xf9
        clear xf9
        have KF := Lib.hid (show WF.heap[br]? = some (.cells #[.int .i64 0, .bool true, .int .i64 0, .int .i64 0, .int .i64 m, .int .i64 0] 74 (0, 0)) from kf)
        have XF := Lib.hid xf
        have hbr1 : W9.heap.size ≤ br := by omega
        clear kf xf
        have HF := Lib.hid (H9.out.more XF.out (F' := [br]) (fun b hb => by rw [List.mem_singleton.1 hb]; exact .inr ⟨hbr1, blk_lt KF.out⟩))
        have RP := Lib.hid (cin_reply WF w1.heap.size gc r s6 [br] HF.out CI6.out (by rw [P6.out.2.2.2.2.1]; decide) (by rw [P6.out.2.2.2.2.2]; decide) cH P6.out.2.2.2.1 0 (by omega) true 0 0 m 0)
        have z0 := blk_cell KF.out 0; have z1 := blk_cell KF.out 1; have z2 := blk_cell KF.out 2; have z3 := blk_cell KF.out 3; have z4 := blk_cell KF.out 4; have z5 := blk_cell KF.out 5
        go_wp2_with fail
        refine RP.out.mono ?_
        rintro e wR ⟨q, B, hri, rfl, hR, gR⟩
        obtain rfl : q = 0 := rep_ok hri (by decide) (by intro x hx; simp at hx; unfold okN; omega)
        rw [if_pos rfl] at hR
        obtain ⟨s7, Hs7⟩ : ∃ s7 : CSt, Hid (repliedS s6 cH ((0 : Nat) : Int) m B = s7) := ⟨_, rfl⟩
        rw [Hs7.out] at hR
        have P7 : Hid (s7.closed = true ∧ s7.hung = true ∧ s7.out = none ∧ s7.wr = [] ∧ s7.led = [⟨3, [113], m⟩]) := by
          rw [← Hs7.out]
          unfold repliedS wrote
          rw [if_neg (show ¬ ((0 : Int) = 0 ∧ s6.hung = false) by rw [P6.out.2.1]; simp)]
          exact ⟨P6.out.1, P6.out.2.1, rfl, P6.out.2.2.2.2.1, by show s6.led ++ _ = _; rw [P6.out.2.2.2.2.2]; rfl⟩
        have KR := Lib.hid (gR.blk KF.out (by simp))
        have ER := Lib.hid (gR.out (E9.out.trans XF.out))
        have tk := cin_take wR w1.heap.size gc r s7 [br] hR
        rw [P7.out.2.2.2.1, List.length_nil] at tk
        have TK := Lib.hid tk
        clear hR gR hri tk z0 z1 z2 z3 z4 z5 RP
        go_wp2_with fail
        refine TK.out.mono ?_
        rintro e wT ⟨WB, wd, rfl, hT, gT, -, bT⟩
        have KT := Lib.hid (gT.blk KR.out (by simp))
        have ET := Lib.hid (gT.out ER.out)
        have HT := Lib.hid hT
        clear hT gT bT TK
        have z0 := blk_cell KT.out 0; have z1 := blk_cell KT.out 1; have z2 := blk_cell KT.out 2; have z3 := blk_cell KT.out 3; have z4 := blk_cell KT.out 4; have z5 := blk_cell KT.out 5
        have RI := Lib.hid (cin_reply_idle wT w1.heap.size gc r _ [br] HT.out P7.out.2.2.1 ((0 : Nat) : Int) true 0 0 m 0)
        go_wp2_with fail
        refine RI.out.mono ?_
        rintro e wI ⟨q2, B2, hri2, rfl, xI⟩
        obtain rfl : q2 = 0 := rep_ok hri2 (by decide) (by intro x hx; simp at hx; unfold okN; omega)
        rw [if_pos rfl]
        have XI := Lib.hid xI
        have NC := Lib.hid (cin_next_closed wI w1.heap.size gc r _ [br] (HT.out.ext xI) P7.out.2.2.1 P7.out.1)
        clear hri2 xI z0 z1 z2 z3 z4 z5 RI
        go_wp2_with fail
        refine NC.out.mono ?_
        rintro e wN ⟨rfl, xN⟩
        have XN := Lib.hid (XI.out.trans xN)
        clear xN NC
        go_upto_region 25 with fail
        obtain ⟨WM, hWM⟩ : ∃ WM, wN.alloc (.cells #[.int .u8 0, .int .i64 0, .slice none 0 0, .int .i64 0] 63) = WM := ⟨_, rfl⟩
        have XM := Lib.hid (show Ext wT WM by rw [← hWM]; exact XN.out.alloc _)
        rw [hWM]
        clear hWM
        have hu2 := cin_hangup WM w1.heap.size gc r _ [br] (HT.out.ext XM.out) (by show s7.led.length ≤ _; rw [P7.out.2.2.2.2]; simp) (by show ∀ t ∈ s7.led, _; rw [P7.out.2.2.2.2]; exact fun t h => by rw [List.mem_singleton.1 h]; simp)
        dsimp only at hu2
        rw [P7.out.2.2.2.2] at hu2
        have HU2 := Lib.hid hu2
        clear hu2
        go_wp2_with fail
        refine HU2.out.mono ?_
        rintro e wH ⟨LB, lb, lks2, rfl, hH, hN, gH⟩
        have hl2 := cin_ledger wH w1.heap.size gc r _ [br] hH (by show List.length ([⟨3, [113], m⟩]) ≤ _; simp) (by show ∀ t ∈ ([⟨3, [113], m⟩] : List CTok), _; exact fun t h => by rw [List.mem_singleton.1 h]; simp)
        have LD := Lib.hid (show Calls Try.prog 57 #[.pointer (some ⟨gc, 0, none⟩)] wH (LedR [⟨3, [113], m⟩] wH) from hl2)
        have KH := Lib.hid (gH.blk (blk_ext KT.out XM.out) (by simp))
        have EH := Lib.hid (gH.out (ET.out.trans XM.out))
        have HN := Lib.hid hN.rd
        clear hH hN gH hl2 HU2
        go_wp2_with fail
        refine LD.out.mono ?_
        rintro e wL ⟨LC, lcc, lks3, rfl, hN3, xL⟩
        have XL := Lib.hid xL
        have SM := Lib.hid (toksSame_true wL LB LC 1 lb lcc [⟨3, [113], m⟩] lks2 lks3 rfl (by decide) (fun t h => by rw [List.mem_singleton.1 h]; exact ⟨by simp, by intro x hx; simp at hx; omega⟩) (HN.out.ext xL) hN3.rd)
        clear hN3 xL LD
        go_wp2_with fail
        refine SM.out.mono ?_
        rintro e wS ⟨rfl, qS, rfl⟩
        have XS := Lib.hid (XL.out.drewN qS)
        generalize wL.drewN qS = wZ at XS ⊢
        have KZZ := blk_ext KH.out XS.out
        have kc := Lib.run_convert_bytes_const (P := Try.prog) wZ 28 5 #[.int .u8 113] 1 1 Try.underlying28 Try.underlying5
        have xk1 := (Ext.refl wZ).alloc (.cells #[.int .u8 113] 5 (1, 2))
        have z4 := ext_cell xk1 (blk_cell KZZ 4)
        clear KZZ
        go_wp2_with fail
        have xk := xk1.alloc (.cells #[.int .i64 3, .slice (some ⟨wZ.heap.size, 0, none⟩) 1 1, .int .i64 m] 53)
        refine (toE_q (toksSame_true _ LB _ 1 lb 1 [⟨3, [113], m⟩] lks2 [(some ⟨wZ.heap.size, 0, none⟩, 1)] rfl (by decide) (fun t h => by rw [List.mem_singleton.1 h]; exact ⟨by simp, by intro x hx; simp at hx; omega⟩) ((HN.out.ext XS.out).ext xk) (tokRd_one (rd_newk _ [.int .i64 3, .slice (some ⟨wZ.heap.size, 0, none⟩) 1 1, .int .i64 m] _ (by simp)) (by decide) ((rd_mark wZ [.int .u8 113] _ _).alloc _)))).mono ?_
        rintro e w11 ⟨rfl, x11⟩
        go_wp2_with fail
        go_ret
        exact retTrue (X1.out.trans (EH.out.trans (XS.out.trans (xk.trans x11))))
end Go.Proofs.Ythkdjjfnmlemdaa
