/- CountPlays answers true. -/
import Derived.Test.YtfjgpeffhbfihaaCntPl2
import Derived.Test.YtfjgpeffhbfihaaFrame
import Derived.Deep.LoopGhost
import Derived.Deep.CutBlock
import Derived.Deep.RegionHeld3
import Derived.Deep.DeepCutAuto
import Derived.Deep.QuietTactic
namespace Go.Proofs.Ytfjgpeffhbfihaa
open Go.RowKit

theorem both_open {w0 W : World} {gc gd k N : Nat} {f1 f2 : FuncId} {a1 a2 : Array Value} {q : Int} (h : Both w0 gc gd k N f1 f2 a1 a2 q W) : Calls Try.prog f1 a1 W fun e w1 => e = .returned (.int .i64 q) ∧ GB W w1 (· < N) ∧ ∀ u, Ext w1 u → Calls Try.prog f2 a2 u fun e w2 => e = .returned (.int .i64 q) ∧ GB u w2 (· < N) ∧ PlaysAt w0 gc gd k w2 := h
set_option maxHeartbeats 8000000 in
set_option maxRecDepth 100000 in
theorem countPlays_ok (w : World) (lim : Nat) (hlim : (lim : Int) ≤ 4611686018427387903) (A : Option Addr) (m c : Nat) (R : List (List Int)) (hl : R.length = m) (hk : RecsOk pickKs R) (hr : Rd w A (R.flatMap (recVals pickKs))) (_hz : m ≤ 8796093021952) :
    Calls Try.prog 6 #[.int .i64 (lim : Int), .slice A m c] w (RetTrue w) := by
  have Hl := Lib.hid hl; have Hk := Lib.hid hk; have Hr := Lib.hid hr
  clear hl hk hr
  go_enter Try.func6, Try.ntmps6
  go_wp2_with fail
  refine (cntAwake w).mono ?_
  rintro e w1 ⟨rfl, hx1⟩
  go_wp2_with fail
  refine (cin_new lim w w1 hx1 hlim).mono ?_
  rintro e w2 ⟨gc, F2, rfl, h2, _⟩
  have H2 := Lib.hid h2
  clear h2
  go_wp2_with fail
  refine (docnew_ok lim w2 hlim).mono ?_
  rintro e w3 ⟨gd, rfl, h3, x3, hgd⟩
  have h0 := Lib.hid (show PlaysAt w gc gd 0 w3 from ⟨F2, lim, 0, 0, _, _, H2.out.ext x3, Nat.le_refl _, h3, fun _ _ => rfl, fun e => by have := H2.out.lt gd e; omega, by rw [hgd]; exact (CntIn.out H2.out).size⟩)
  clear h3 hgd
  go_upto_block 0 with fail
  go_cut [] (fun wd => PlaysAt w gc gd 400 wd)
  case first =>
    go_wp2_with fail
    go_loopw [39] (fun i wr => ∃ k : Nat, k ≤ m ∧ k ≤ 400 ∧ i = .int .i64 (k : Int) ∧ PlaysAt w gc gd k wr) (fun i _ => m - (intOf i).toNat)
    case atStart => exact ⟨0, Nat.zero_le _, by omega, rfl, h0.out⟩
    case round =>
      obtain ⟨k, hk, hk4, rfl, hI⟩ := hrel
      by_cases hlt : k < m
      · obtain ⟨r, hr⟩ : ∃ r, R[k]? = some r := ⟨_, List.getElem?_eq_getElem (by rw [Hl.out]; exact hlt)⟩
        obtain ⟨who, op, rfl, hwho, hop⟩ := pick_row Hk.out hr
        obtain ⟨b, off, hA, _, c0, c1⟩ := pick_cells (Hr.out.ext hI.out) Hk.out hr
        subst hA
        have HI := Lib.hid hI
        clear hI hr
        by_cases h400 : k < 400
        · obtain ⟨W, hW⟩ : ∃ W, wr.alloc (.cells #[.int .i64 who, .int .u8 (op : Int)] 67) = W := ⟨_, rfl⟩
          have xW : Ext wr W := by rw [← hW]; exact (Ext.refl wr).alloc _
          have KP := Lib.hid (show W.heap[wr.heap.size]? = some (.cells #[.int .i64 who, .int .u8 (op : Int)] 67 (0, 0)) by rw [← hW]; exact blk_new wr _)
          have e0 : W.cell? ⟨wr.heap.size, 0, none⟩ = some (.int .i64 who) := blk_cell KP.out 0
          have e1 : W.cell? ⟨wr.heap.size, 1, none⟩ = some (.int .u8 (op : Int)) := blk_cell KP.out 1
          go_upto_if 48 with fail
          (try rw [hW])
          clear hW c0 c1
          go_cut [11, 12, 13, 14] (fun _ _ _ _ wd => PlaysAt w gc gd (k + 1) wd ∧ wd.heap[wr.heap.size]? = some (.cells #[.int .i64 who, .int .u8 (op : Int)] 67 (0, 0)))
          case first =>
            by_cases hop0 : op = 0
            · subst hop0
              obtain ⟨d, er, nu, q, hst⟩ := plays_step w wr W gc gd k who HI.out xW (by omega)
              have HST := Lib.hid hst
              clear hst
              go_wp2_with fail
              refine HST.out.mono ?_
              rintro e w4 ⟨rfl, g4, h4⟩
              have K4 := Lib.hid (g4.blk KP.out (Nat.lt_irrefl _))
              have b0 : (w4.alloc (.cells #[.bool d, .int .i64 er, .int .i64 nu] 71)).cell? ⟨wr.heap.size, 0, none⟩ = some (.int .i64 who) := cell_past (blk_cell K4.out 0) _
              have H4 := Lib.hid h4
              have L4 := Lib.hid (show wr.heap.size < w4.heap.size from blk_lt K4.out)
              clear h4 g4 e0 e1
              go_wp2_with fail
              refine (H4.out _ ((Ext.refl w4).alloc _)).mono ?_
              rintro e w5 ⟨rfl, g5, h5⟩
              have H5 := Lib.hid h5
              have K5 := Lib.hid (g5.blk (blk_past K4.out _) (Nat.lt_irrefl _))
              have R5 := Lib.hid (g5.blk (blk_new w4 (.cells #[.bool d, .int .i64 er, .int .i64 nu] 71 (0, 0))) (fun e => by have := L4.out; omega))
              obtain ⟨V, hV⟩ : ∃ V, w5.alloc (.cells #[.bool d, .int .i64 er, .int .i64 nu] 75) = V := ⟨_, rfl⟩
              have xV : Ext w5 V := by rw [← hV]; exact (Ext.refl w5).alloc _
              have RV := Lib.hid (blk_ext R5.out xV)
              have SV := Lib.hid (show V.heap[w5.heap.size]? = some (.cells #[.bool d, .int .i64 er, .int .i64 nu] 75 (0, 0)) by rw [← hV]; exact blk_new w5 _)
              have u0 := blk_cell RV.out 0; have u1 := blk_cell RV.out 1; have u2 := blk_cell RV.out 2
              have v0 := blk_cell SV.out 0; have v1 := blk_cell SV.out 1; have v2 := blk_cell SV.out 2
              clear h5 g5 b0
              go_wp2_with fail
              (try rw [hV])
              refine (csame_any V d er nu).mono ?_
              rintro e w6 ⟨rfl, x6⟩
              go_wp2_with fail
              go_meet
              exact ⟨H5.out.ext (xV.trans x6), blk_ext K5.out (xV.trans x6)⟩
            · have hop1 : ((op : Int) != 0) = true := by rw [bne_iff_ne]; omega
              obtain ⟨q, hA, hB⟩ := plays_start w wr W.drew gc gd k who op HI.out xW.drew hop
              have HA := Lib.hid (both_open hA); have HB := Lib.hid (both_open hB)
              have d0 : W.drew.cell? ⟨wr.heap.size, 0, none⟩ = some (.int .i64 who) := e0
              have d1 : W.drew.cell? ⟨wr.heap.size, 1, none⟩ = some (.int .u8 (op : Int)) := e1
              have KD : Hid (W.drew.heap[wr.heap.size]? = some (.cells #[.int .i64 who, .int .u8 (op : Int)] 67 (0, 0))) := Lib.hid KP.out
              clear hA hB hop0
              go_upto_region 12 with fail
              go_region_held3 (fun w' => w'.cell? ⟨wr.heap.size, 0, none⟩ = some (.int .i64 who) ∧ w'.cell? ⟨wr.heap.size, 1, none⟩ = some (.int .u8 (op : Int)))
                (((try go_split_ands); refine ⟨?_, ?_⟩ <;> first | assumption | (with_reducible exact t0) | (with_reducible exact t1) | (with_reducible exact s0) | (with_reducible exact s1) | (with_reducible exact d0) | (with_reducible exact d1)))
                (first
                  | (go_at_call 27; (with_reducible refine HA.out.mono ?_); rintro e w4 ⟨rfl, g4, h4⟩; have K4 := Lib.hid (g4.blk KD.out (Nat.lt_irrefl _)); have H4 := Lib.hid (h4 w4 (Ext.refl w4)); have t0 := blk_cell K4.out 0; have t1 := blk_cell K4.out 1; clear h4 g4)
                  | (go_at_call 28; (with_reducible refine HB.out.mono ?_); rintro e w4 ⟨rfl, g4, h4⟩; have K4 := Lib.hid (g4.blk KD.out (Nat.lt_irrefl _)); have H4 := Lib.hid (h4 w4 (Ext.refl w4)); have t0 := blk_cell K4.out 0; have t1 := blk_cell K4.out 1; clear h4 g4)
                  | ((with_reducible refine H4.out.mono ?_); rintro e w5 ⟨rfl, g5, h5⟩; have K5 := Lib.hid (g5.blk K4.out (Nat.lt_irrefl _)); have H5 := Lib.hid h5; have s0 := blk_cell K5.out 0; have s1 := blk_cell K5.out 1; clear h5 g5))
              all_goals
                go_wp2_with fail
                go_meet
                obtain ⟨F, lim', val, a, S, C, q1, q2, q3⟩ := H5.out
                exact ⟨⟨F, lim', val, a, S, C, q1, by omega, q3⟩, K5.out⟩
          case rest =>
            obtain ⟨hI2, hK2⟩ := hcut
            obtain ⟨b, hb⟩ := plays_pend w wc gc gd (k + 1) who hI2
            obtain ⟨nv, ns, hv⟩ := plays_vals w wc gc gd (k + 1) hI2
            have HI2 := Lib.hid hI2
            have HB := Lib.hid hb; have HV := Lib.hid hv
            have e0 : wc.cell? ⟨wr.heap.size, 0, none⟩ = some (.int .i64 who) := blk_cell hK2 0
            clear hI2 hK2 hb hv
            go_upto_region 18 with fail
            go_quiet ((first | (go_at_call 32; exact quiet_eq (HB.out _ ((Ext.refl wc).drewN _)).1) | (go_at_call 33; exact quiet_eq (HB.out _ ((Ext.refl wc).drewN _)).2)))
            obtain ⟨U, hU⟩ : ∃ U, wc.drewN nq = U := ⟨_, rfl⟩
            have xU : Ext wc U := by rw [← hU]; exact (Ext.refl wc).drewN nq
            (try rw [hU])
            clear hU e0
            have e1 := (HV.out U xU).2.2.1
            have e2 := (HV.out U xU).2.2.2
            go_upto_region 20 with fail
            go_quiet ((first | (go_at_call 34; exact quiet_eq (HV.out _ (xU.drewN _)).1) | (go_at_call 35; exact quiet_eq (HV.out _ (xU.drewN _)).2.1)))
            go_wp2_with fail
            go_roundw
            case rel => exact ⟨k + 1, hlt, h400, by go_num, HI2.out.ext (xU.drewN _)⟩
            case measure => simp [intOf]; omega
        · go_wp2_with fail
          go_meet
          obtain ⟨F, lim', val, a, S, C, q1, q2, q3⟩ := HI.out.ext ((Ext.refl wr).alloc _)
          exact ⟨F, lim', val, a, S, C, q1, by omega, q3⟩
      · have HI := Lib.hid hI
        clear hI
        go_wp2_with fail
        go_meet
        obtain ⟨F, lim', val, a, S, C, q1, q2, q3⟩ := HI.out
        exact ⟨F, lim', val, a, S, C, q1, by omega, q3⟩
  case rest =>
    have HX := Lib.hid hcut.out
    clear hcut
    go_wp2_with fail
    go_ret
    exact retTrue HX.out
theorem nil_start (who : Int) (op : Nat) (hop : op < 256) : ∃ q, (∀ u, Calls Try.prog 27 #[.pointer none, .int .i64 who, .int .u8 (op : Int)] u (RetE (.int .i64 q) u)) ∧ ∀ u, Calls Try.prog 28 #[.pointer none, .int .i64 who, .int .u8 (op : Int)] u (RetE (.int .i64 q) u) := by
  by_cases hb : (0 ≤ who ∧ who < 64) ∧ 1 ≤ op ∧ op ≤ 3
  · exact ⟨7, fun u => (cstart_nil u who op hb.1.1 hb.1.2 hb.2.1 hb.2.2).mono (fun _ _ h => h), fun u => toE_eq (dstart_nil u who op hb.1.1 hb.1.2 hb.2.1 hb.2.2)⟩
  · have hb' : ¬ (0 ≤ who ∧ who < 64) ∨ op = 0 ∨ 3 < op := by omega
    exact ⟨1, fun u => (cstart_arg u none who op hop hb').mono (fun _ _ h => h), fun u => toE_eq (dstart_arg u none who op hop hb')⟩
theorem nil_step (who : Int) : ∃ (d : Bool) (er nu q : Int), (∀ u, Calls Try.prog 29 #[.pointer none, .int .i64 who] u (RetE (.tuple #[.agg #[.bool d, .int .i64 er, .int .i64 nu], .int .i64 q]) u)) ∧ ∀ u, Calls Try.prog 30 #[.pointer none, .int .i64 who] u (RetE (.tuple #[.agg #[.bool d, .int .i64 er, .int .i64 nu], .int .i64 q]) u) := by
  by_cases hb : 0 ≤ who ∧ who < 64
  · exact ⟨false, 0, 0, 7, fun u => cstep_nil u who hb.1 hb.2, fun u => dstep_nil u who hb.1 hb.2⟩
  · exact ⟨false, 0, 0, 1, fun u => cstep_arg u none who hb, fun u => dstep_arg u none who hb⟩
set_option maxHeartbeats 8000000 in
set_option maxRecDepth 100000 in
theorem countPlays_nil (w : World) (lim : Int) (hlim : lim < 0 ∨ 4611686018427387903 < lim) (A : Option Addr) (m c : Nat) (R : List (List Int)) (hl : R.length = m) (hk : RecsOk pickKs R) (hr : Rd w A (R.flatMap (recVals pickKs))) (_hz : m ≤ 8796093021952) :
    Calls Try.prog 6 #[.int .i64 lim, .slice A m c] w (RetTrue w) := by
  have Hl := Lib.hid hl; have Hk := Lib.hid hk; have Hr := Lib.hid hr; have HLIM := Lib.hid hlim
  clear hl hk hr hlim
  go_enter Try.func6, Try.ntmps6
  go_wp2_with fail
  refine (cntAwake w).mono ?_
  rintro e w1 ⟨rfl, hx1⟩
  go_wp2_with fail
  refine (cnew_bad lim w1 HLIM.out).mono ?_
  rintro e w2 ⟨rfl, rfl⟩
  go_wp2_with fail
  refine (docnew_bad lim w1 HLIM.out).mono ?_
  rintro e w2 ⟨rfl, rfl⟩
  have h0 := Lib.hid hx1
  go_upto_block 0 with fail
  go_cut [] (fun wd => Ext w wd)
  case first =>
    go_wp2_with fail
    go_loopw [39] (fun i wr => ∃ k : Nat, k ≤ m ∧ k ≤ 400 ∧ i = .int .i64 (k : Int) ∧ Ext w wr) (fun i _ => m - (intOf i).toNat)
    case atStart => exact ⟨0, Nat.zero_le _, by omega, rfl, h0.out⟩
    case round =>
      obtain ⟨k, hk, hk4, rfl, hI⟩ := hrel
      have HI := Lib.hid hI
      by_cases hlt : k < m
      · obtain ⟨r, hr⟩ : ∃ r, R[k]? = some r := ⟨_, List.getElem?_eq_getElem (by rw [Hl.out]; exact hlt)⟩
        obtain ⟨who, op, rfl, hwho, hop⟩ := pick_row Hk.out hr
        obtain ⟨b, off, hA, _, c0, c1⟩ := pick_cells (Hr.out.ext hI) Hk.out hr
        subst hA
        clear hI hr
        by_cases h400 : k < 400
        · obtain ⟨W, hW⟩ : ∃ W, wr.alloc (.cells #[.int .i64 who, .int .u8 (op : Int)] 67) = W := ⟨_, rfl⟩
          have xW : Ext wr W := by rw [← hW]; exact (Ext.refl wr).alloc _
          have KP := Lib.hid (show W.heap[wr.heap.size]? = some (.cells #[.int .i64 who, .int .u8 (op : Int)] 67 (0, 0)) by rw [← hW]; exact blk_new wr _)
          have e0 : W.cell? ⟨wr.heap.size, 0, none⟩ = some (.int .i64 who) := blk_cell KP.out 0
          have e1 : W.cell? ⟨wr.heap.size, 1, none⟩ = some (.int .u8 (op : Int)) := blk_cell KP.out 1
          go_upto_if 48 with fail
          (try rw [hW])
          clear hW c0 c1
          go_cut [11, 12, 13, 14] (fun _ _ _ _ wd => Ext W wd)
          case first =>
            by_cases hop0 : op = 0
            · subst hop0
              obtain ⟨d, er, nu, q, hA, hB⟩ := nil_step who
              have HA := Lib.hid hA; have HB := Lib.hid hB
              clear hA hB
              go_wp2_with fail
              refine (HA.out W).mono ?_
              rintro e w4 ⟨rfl, x4⟩
              have K4 := Lib.hid (blk_ext KP.out x4)
              have b0 : (w4.alloc (.cells #[.bool d, .int .i64 er, .int .i64 nu] 71)).cell? ⟨wr.heap.size, 0, none⟩ = some (.int .i64 who) := cell_past (blk_cell K4.out 0) _
              have X4 := Lib.hid x4
              clear x4 e0 e1
              go_wp2_with fail
              refine (HB.out _).mono ?_
              rintro e w5 ⟨rfl, x5⟩
              have R5 := Lib.hid (blk_ext (blk_new w4 (.cells #[.bool d, .int .i64 er, .int .i64 nu] 71 (0, 0))) x5)
              obtain ⟨V, hV⟩ : ∃ V, w5.alloc (.cells #[.bool d, .int .i64 er, .int .i64 nu] 75) = V := ⟨_, rfl⟩
              have xV : Ext w5 V := by rw [← hV]; exact (Ext.refl w5).alloc _
              have RV := Lib.hid (blk_ext R5.out xV)
              have SV := Lib.hid (show V.heap[w5.heap.size]? = some (.cells #[.bool d, .int .i64 er, .int .i64 nu] 75 (0, 0)) by rw [← hV]; exact blk_new w5 _)
              have u0 := blk_cell RV.out 0; have u1 := blk_cell RV.out 1; have u2 := blk_cell RV.out 2
              have v0 := blk_cell SV.out 0; have v1 := blk_cell SV.out 1; have v2 := blk_cell SV.out 2
              have X5 := Lib.hid (((X4.out.alloc _).trans x5).trans xV)
              clear x5 b0
              go_wp2_with fail
              (try rw [hV])
              refine (csame_any V d er nu).mono ?_
              rintro e w6 ⟨rfl, x6⟩
              go_wp2_with fail
              go_meet
              exact X5.out.trans x6
            · have hop1 : ((op : Int) != 0) = true := by rw [bne_iff_ne]; omega
              obtain ⟨q, hA, hB⟩ := nil_start who op hop
              have HA := Lib.hid hA; have HB := Lib.hid hB
              have d0 : W.drew.cell? ⟨wr.heap.size, 0, none⟩ = some (.int .i64 who) := e0
              have d1 : W.drew.cell? ⟨wr.heap.size, 1, none⟩ = some (.int .u8 (op : Int)) := e1
              have XD := Lib.hid (Ext.refl W).drew
              clear hA hB hop0
              go_upto_region 12 with fail
              go_region_held3 (fun w' => w'.cell? ⟨wr.heap.size, 0, none⟩ = some (.int .i64 who) ∧ w'.cell? ⟨wr.heap.size, 1, none⟩ = some (.int .u8 (op : Int)))
                (((try go_split_ands); refine ⟨?_, ?_⟩ <;> first | assumption | (with_reducible exact t0) | (with_reducible exact t1) | (with_reducible exact s0) | (with_reducible exact s1) | (with_reducible exact d0) | (with_reducible exact d1)))
                (first
                  | (go_at_call 27; (with_reducible refine (HA.out W.drew).mono ?_); rintro e w4 ⟨rfl, x4⟩; have X4 := Lib.hid (XD.out.trans x4); have t0 := ext_cell X4.out e0; have t1 := ext_cell X4.out e1; clear x4)
                  | (go_at_call 28; (with_reducible refine (HB.out W.drew).mono ?_); rintro e w4 ⟨rfl, x4⟩; have X4 := Lib.hid (XD.out.trans x4); have t0 := ext_cell X4.out e0; have t1 := ext_cell X4.out e1; clear x4)
                  | (go_at_call 27; (with_reducible refine (HA.out w4).mono ?_); rintro e w5 ⟨rfl, x5⟩; have X5 := Lib.hid (X4.out.trans x5); have s0 := ext_cell X5.out e0; have s1 := ext_cell X5.out e1; clear x5)
                  | (go_at_call 28; (with_reducible refine (HB.out w4).mono ?_); rintro e w5 ⟨rfl, x5⟩; have X5 := Lib.hid (X4.out.trans x5); have s0 := ext_cell X5.out e0; have s1 := ext_cell X5.out e1; clear x5))
              all_goals
                go_wp2_with fail
                go_meet
                exact X5.out
          case rest =>
            have HX := Lib.hid (HI.out.trans (xW.trans hcut))
            have e2 := ext_cell hcut e0
            clear hcut e0 e1
            go_upto_region 18 with fail
            go_quiet ((first | (go_at_call 32; exact quiet_eq (cpend_nil _ who)) | (go_at_call 33; exact quiet_eq (dpend_nil _ who))))
            obtain ⟨U, hU⟩ : ∃ U, wc.drewN nq = U := ⟨_, rfl⟩
            have xU : Ext wc U := by rw [← hU]; exact (Ext.refl wc).drewN nq
            (try rw [hU])
            clear hU e2
            go_upto_region 20 with fail
            go_quiet (fail)
            go_wp2_with fail
            go_roundw
            case rel => exact ⟨k + 1, hlt, h400, by go_num, (HX.out.trans xU).drewN _⟩
            case measure => simp [intOf]; omega
        · go_wp2_with fail
          go_meet
          exact HI.out.alloc _
      · clear hI
        go_wp2_with fail
        go_meet
        exact HI.out
  case rest =>
    have HX := Lib.hid hcut
    clear hcut
    go_wp2_with fail
    refine (cvalue_nil wc).mono ?_
    rintro e w6 ⟨rfl, rfl⟩
    go_wp2_with fail
    refine (csteps_nil wc).mono ?_
    rintro e w6 ⟨rfl, rfl⟩
    go_wp2_with fail
    go_ret
    exact retTrue HX.out
theorem countPlays_walk (w : World) (lim : Int) (_ : -9223372036854775808 ≤ lim) (_ : lim ≤ 9223372036854775807) (A : Option Addr) (m c : Nat) (R : List (List Int)) (hl : R.length = m) (hk : RecsOk pickKs R) (hr : Rd w A (R.flatMap (recVals pickKs))) (_hnc : m ≤ c) (hz : m ≤ 8796093021952) :
    Calls Try.prog 6 #[.int .i64 lim, .slice A m c] w (RetTrue w) := by
  by_cases h : lim < 0 ∨ 4611686018427387903 < lim
  · exact countPlays_nil w lim h A m c R hl hk hr hz
  · obtain ⟨n, rfl⟩ : ∃ n : Nat, lim = (n : Int) := ⟨lim.toNat, by omega⟩
    exact countPlays_ok w n (by omega) A m c R hl hk hr hz
end Go.Proofs.Ytfjgpeffhbfihaa
