/- epoch: Unpin's function, Advance's looks. -/
import Derived.Test.YtlgggeeflomelaaEpD
namespace Go.Proofs.Ytlgggeeflomelaa
open Go.RowKit

set_option maxHeartbeats 2000000 in
set_option maxRecDepth 100000 in
theorem eunpin_any (w : World) (C F : Nat → Prop) (gx gm n who : Nat) (L : List AccE) (s : ESt) (h : EpAt w C F gx gm n L s) (hL : L.length ≤ 100000) (hw : who < n) (hn : n ≤ 64) :
    Calls Try.prog 78 #[.pointer (some ⟨gx, 0, none⟩), .int .i64 (who : Int)] w (CloSt w C F gx gm n who (L.length + 1) ({ s.put who { s.wk who with pinned := false } with pw := updG s.pw who 0 }) .idle true 0 0 []) := by
  obtain ⟨W, hW⟩ : ∃ W, w.alloc (.cells #[.bool false, .int .i64 0, .int .i64 0, .slice none 0 0] 36) = W := ⟨_, rfl⟩
  have xW : Ext w W := by rw [← hW]; exact (Ext.refl w).alloc _
  have KR := Lib.hid (show W.heap[w.heap.size]? = some (.cells #[.bool false, .int .i64 0, .int .i64 0, .slice none 0 0] 36 (0, 0)) by rw [← hW]; exact blk_new w _)
  have hE := h.ext xW
  have dc := epi_cells hE
  have PK := Lib.hid (hE.peek who (1 + (who : Int)) (by omega) hw)
  have hsw := hE.swapw hL who (s.pw who) 0 (1 + (who : Int)) 0 (by omega) rfl (by omega) hw
  rw [if_pos rfl] at hsw
  have SW := Lib.hid hsw
  have hw1 : IntKind.i64.wrap ((1 : Int) + (who : Int)) = 1 + (who : Int) := by rw [IntKind.wrap_i64]; omega
  have hlt := Lib.hid h.lt; have hsub := Lib.hid h.sub
  clear hE h hsw
  go_enter Try.func78, Try.ntmps78
  go_wp2_with fail
  (try rw [hW])
  refine PK.out.mono ?_
  rintro e w1 ⟨rfl, rfl⟩
  go_wp2_with fail
  (try rw [hW])
  clear hW
  refine SW.out.mono ?_
  rintro e w2 ⟨d, a, rfl, hg⟩
  have HM := Lib.hid (show EpMid W C F gx gm n (L.length + 1) { s with pw := updG s.pw who 0 } w2 from ⟨_, by simp, hg⟩)
  obtain ⟨L', C', F', hl, hE, g2, fC, fF, fF'⟩ := HM.out.out
  have KR2 := Lib.hid (g2.blk KR.out (fun e => Nat.lt_irrefl _ (hlt.out _ (hsub.out _ e))))
  obtain ⟨gw, vp, x1, xp, xf, hgw, hne, hup⟩ := hE.pin_cells hw
  have UP := Lib.hid (EpMid.upd hl g2 fC fF fF' (hup false))
  have mr : w.heap.size ≠ gw := fun e => (fC gw hgw).elim (fun h => Nat.lt_irrefl _ (hlt.out _ (hsub.out _ (e ▸ h)))) (fun h => by have := blk_lt KR.out; omega)
  have KR3 := Lib.hid (blk_grown KR2.out (grown_set w2 gw (who * 3 + 1) (.bool false)) mr)
  clear hE g2 fC fF fF' hup hgw hg dc
  go_wp2_with fail
  refine (eend_any 0 0 _ (by omega)).mono ?_
  rintro e w3 ⟨rfl, x3⟩
  have KR4 := blk_ext KR3.out x3
  have r0 := blk_cell KR4 0; have r1 := blk_cell KR4 1; have r2 := blk_cell KR4 2; have r3 := blk_cell KR4 3
  have z0 := blk_frozen KR4 0; have z1 := blk_frozen KR4 1; have z2 := blk_frozen KR4 2; have z3 := blk_frozen KR4 3
  have K4 := Lib.hid KR4
  clear KR4 x1 xp xf
  go_wp2_with fail
  refine bodyPost_ret (results_tmp_row (p := 5) (u := 4) rfl _ _ w.heap.size _ #[.bool true, .int .i64 0, .int .i64 0, .slice none 0 0] (0, 0) _ rfl (row4 K4.out _ _ _ _) Try.underlying36 (by rfl) (by kernel_rfl)) rfl ?_
  obtain ⟨L9, hl9, hg9⟩ := UP.out
  exact ⟨L9, hl9, eclo_put xW (blk_lt KR.out) hlt.out hsub.out _ _ _ _ (eclo_idle hg9 x3 _ _)⟩
set_option maxHeartbeats 2000000 in
set_option maxRecDepth 100000 in
theorem ebeg1_any (w : World) (C F : Nat → Prop) (gx gm n who : Nat) (L : List AccE) (s : ESt) (p0 p1 : Value) (h : EpAt w C F gx gm n L s) (hL : L.length ≤ 100000) (hw : who < n) (hn : n ≤ 64)
    (k0 : BoxAt w C F p0 (.pointer (some ⟨gx, 0, none⟩))) (k1 : BoxAt w C F p1 (.int .i64 (who : Int))) :
    Calls Try.prog 77 #[p0, p1] w (CloSt w C F gx gm n who (L.length + 1) ({ s.put who { s.wk who with pinned := false } with pw := updG s.pw who 0 }) .idle true 0 0 []) := by
  obtain ⟨b0, rfl, c0, n0, f0⟩ := k0.cell
  obtain ⟨b1, rfl, c1, n1, f1⟩ := k1.cell
  obtain ⟨W, hW⟩ : ∃ W, w.alloc (.cells #[.bool false, .int .i64 0, .int .i64 0, .slice none 0 0] 36) = W := ⟨_, rfl⟩
  have xW : Ext w W := by rw [← hW]; exact (Ext.refl w).alloc _
  have KR := Lib.hid (show W.heap[w.heap.size]? = some (.cells #[.bool false, .int .i64 0, .int .i64 0, .slice none 0 0] 36 (0, 0)) by rw [← hW]; exact blk_new w _)
  have UN := Lib.hid (eunpin_any W C F gx gm n who L s (h.ext xW) hL hw hn)
  have d0 := ext_cell xW c0; have d1 := ext_cell xW c1
  have hlt := Lib.hid h.lt; have hsub := Lib.hid h.sub
  clear c0 c1 h k0 k1
  go_enter Try.func77, Try.ntmps77
  go_upto_region 1 with fail
  (try rw [hW])
  clear hW
  go_wp2_with fail
  refine UN.out.mono ?_
  rintro e w3 ⟨L9, hl9, hc⟩
  have HC := Lib.hid hc
  obtain ⟨v, A, m, k, C', F', rfl, h1, h2, h3, h4, h5, h6, h7, h8⟩ := hc
  have hv : v = .nilFunc := h2
  subst hv
  have KR4 := h3.blk KR.out (fun e => Nat.lt_irrefl _ (hlt.out _ (hsub.out _ e)))
  have r0 := blk_cell KR4 0; have r1 := blk_cell KR4 1; have r2 := blk_cell KR4 2; have r3 := blk_cell KR4 3
  have z0 := blk_frozen KR4 0; have z1 := blk_frozen KR4 1; have z2 := blk_frozen KR4 2; have z3 := blk_frozen KR4 3
  have K4 := Lib.hid KR4
  clear KR4 h1 h2 h3 h4 h5 h6 h7 h8
  go_wp2_with fail
  refine bodyPost_ret (results_tmp_row (p := 3) (u := 2) rfl _ _ w.heap.size _ #[.bool true, .int .i64 0, .int .i64 0, .slice A m k] (0, 0) _ rfl (row4 K4.out _ _ _ _) Try.underlying36 (by rfl) (by kernel_rfl)) rfl ?_
  exact ⟨L9, hl9, eclo_put xW (blk_lt KR.out) hlt.out hsub.out _ _ _ _ HC.out⟩
set_option maxHeartbeats 2000000 in
set_option maxRecDepth 100000 in
theorem elook_end (w : World) (C F : Nat → Prop) (gx gm n who ee : Nat) (L : List AccE) (s : ESt) (p0 p1 p2 p3 : Value) (h : EpAt w C F gx gm n L s) (hL : L.length ≤ 100000) (hw : who < n) (hn : n ≤ 64) (hee : ee ≤ 1000000)
    (k0 : BoxAt w C F p0 (.int .i64 (n : Int))) (k1 : BoxAt w C F p1 (.pointer (some ⟨gx, 0, none⟩))) (k2 : BoxAt w C F p2 (.int .i64 (who : Int))) (k3 : BoxAt w C F p3 (.int .u64 (ee : Int))) :
    Calls Try.prog 102 #[p0, p1, p2, p3] w (fun e w' => (s.ep = ee → CloSt w C F gx gm n who (L.length + 1) { s with ep := ee + 1 } .idle true 0 ((ee : Int) + 1) [] e w') ∧ (¬ s.ep = ee → CloSt w C F gx gm n who (L.length + 1) s .idle true 0 0 [] e w')) := by
  obtain ⟨b0, rfl, c0, n0, f0⟩ := k0.cell
  obtain ⟨b1, rfl, c1, n1, f1⟩ := k1.cell
  obtain ⟨b2, rfl, c2, n2, f2⟩ := k2.cell
  obtain ⟨b3, rfl, c3, n3, f3⟩ := k3.cell
  obtain ⟨W, hW⟩ : ∃ W, w.alloc (.cells #[.bool false, .int .i64 0, .int .i64 0, .slice none 0 0] 36) = W := ⟨_, rfl⟩
  have xW : Ext w W := by rw [← hW]; exact (Ext.refl w).alloc _
  have KR := Lib.hid (show W.heap[w.heap.size]? = some (.cells #[.bool false, .int .i64 0, .int .i64 0, .slice none 0 0] 36 (0, 0)) by rw [← hW]; exact blk_new w _)
  have hsw := fun (u : World) (hx : Ext W u) => (h.ext (xW.trans hx)).swap0 hL who ee (ee + 1) ((ee : Int) + 1) (by omega) (by omega)
  have hw2 : IntKind.u64.wrap ((ee : Int) + 1) = (ee : Int) + 1 := by rw [IntKind.wrap_u64]; omega
  obtain ⟨_, dx⟩ := (h.ext xW).x1
  have d0 := ext_cell xW c0; have d1 := ext_cell xW c1; have d2 := ext_cell xW c2; have d3 := ext_cell xW c3; have dc := ext_cell xW (epi_cells h)
  have hlt := Lib.hid h.lt; have hsub := Lib.hid h.sub
  clear c0 c1 c2 c3 h k0 k1 k2 k3
  obtain ⟨dn, hdn⟩ : ∃ dn, decide (s.ep = ee) = dn := ⟨_, rfl⟩
  obtain ⟨s', hs'⟩ : ∃ s', { s with ep := if s.ep = ee then ee + 1 else s.ep } = s' := ⟨_, rfl⟩
  rw [hdn, hs'] at hsw
  have SW := Lib.hid hsw
  clear hsw
  have key : Calls Try.prog 102 #[.pointer (some ⟨b0, 0, none⟩), .pointer (some ⟨b1, 0, none⟩), .pointer (some ⟨b2, 0, none⟩), .pointer (some ⟨b3, 0, none⟩)] w (CloSt w C F gx gm n who (L.length + 1) s' .idle true 0 (if dn = true then (ee : Int) + 1 else 0) []) := by
    clear hs' hdn
    go_enter Try.func102, Try.ntmps102
    go_upto_region 1 with fail
    (try rw [hW])
    clear hW
    go_quiet (fail)
    obtain ⟨U, hU⟩ : ∃ U, W.drewN nq = U := ⟨_, rfl⟩
    have xU : Ext W U := by rw [← hU]; exact (Ext.refl W).drewN nq
    have e0 := ext_cell xU d0; have e1 := ext_cell xU d1; have e2 := ext_cell xU d2; have e3 := ext_cell xU d3; have ec := ext_cell xU dc
    have KU := Lib.hid (blk_ext KR.out xU)
    (try rw [hU])
    clear d0 d1 d2 d3 dc
    go_upto_region 2 with fail
    (try rw [hU])
    clear hU
    go_cut [6] (fun v6 wd => v6 = .bool dn ∧ EpMid W C F gx gm n (L.length + 1) s' wd ∧ GB U wd C)
    case first =>
      go_region_held3 (fun w' => w'.cell? ⟨b1, 0, none⟩ = some (.pointer (some ⟨gx, 0, none⟩)) ∧ w'.cell? ⟨b2, 0, none⟩ = some (.int .i64 (who : Int)) ∧ w'.cell? ⟨b3, 0, none⟩ = some (.int .u64 (ee : Int)) ∧ w'.cell? ⟨gx, 0, none⟩ = some (.pointer (some ⟨gm, 0, none⟩)))
        (((try go_split_ands); refine ⟨?_, ?_, ?_, ?_⟩ <;> first | assumption | (with_reducible exact drew_cell e1) | (with_reducible exact drew_cell e2) | (with_reducible exact drew_cell e3) | (with_reducible exact drew_cell ec)))
        ((go_at_call 87; (with_reducible refine (SW.out U.drew xU.drew).mono ?_); rintro e w2 ⟨a, rfl, hg⟩; have HG : Hid (EpMid U C F gx gm n (L.length + 1) s' w2) := Lib.hid ⟨_, by simp, hg.back (Ext.refl U).drew⟩; have HW : Hid (EpMid W C F gx gm n (L.length + 1) s' w2) := Lib.hid ⟨_, by simp, hg.back xU.drew⟩; obtain ⟨tc, g2⟩ := HG.out.keep; have t1 := g2.cell e1 n1; have t2 := g2.cell e2 n2; have t3 := g2.cell e3 n3; clear g2 hg))
      all_goals
        go_wp2_with fail
        go_meet
        exact ⟨rfl, HW.out, HG.out.keep.2⟩
    case rest =>
      obtain ⟨rfl, hcut, g2⟩ := hcut
      have HM := Lib.hid hcut
      have KR2 := Lib.hid (g2.blk KU.out (fun e => Nat.lt_irrefl _ (hlt.out _ (hsub.out _ e))))
      have t3 := g2.cell e3 n3
      clear e0 e1 e2 e3 ec hcut g2 dx
      cases dn with
      | false =>
        go_wp2_with fail
        refine (eend_any 0 0 _ (by omega)).mono ?_
        rintro e w3 ⟨rfl, x3⟩
        have KR4 := blk_ext KR2.out x3
        have r0 := blk_cell KR4 0; have r1 := blk_cell KR4 1; have r2 := blk_cell KR4 2; have r3 := blk_cell KR4 3
        have z0 := blk_frozen KR4 0; have z1 := blk_frozen KR4 1; have z2 := blk_frozen KR4 2; have z3 := blk_frozen KR4 3
        have K4 := Lib.hid KR4
        clear KR4
        go_wp2_with fail
        refine bodyPost_ret (results_tmp_row (p := 5) (u := 4) rfl _ _ w.heap.size _ #[.bool true, .int .i64 0, .int .i64 0, .slice none 0 0] (0, 0) _ rfl (row4 K4.out _ _ _ _) Try.underlying36 (by rfl) (by kernel_rfl)) rfl ?_
        obtain ⟨L9, hl9, hg9⟩ := HM.out
        exact ⟨L9, hl9, eclo_put xW (blk_lt KR.out) hlt.out hsub.out _ _ _ _ (eclo_idle hg9 x3 _ _)⟩
      | true =>
        have EN : ∀ x : Int, x = ((ee + 1 : Nat) : Int) → Calls Try.prog 82 #[.int .i64 0, .int .u64 x] wc (RetE (.tuple #[.nilFunc, .agg #[.bool true, .int .i64 0, .int .i64 x, .slice none 0 0]]) wc) := fun x hx => by subst hx; exact eend_any 0 (ee + 1) wc (by omega)
        have HEN := Lib.hid EN
        clear EN
        go_wp2_with fail
        refine (HEN.out _ (by omega)).mono ?_
        rintro e w3 ⟨rfl, x3⟩
        have KR4 := blk_ext KR2.out x3
        have r0 := blk_cell KR4 0; have r1 := blk_cell KR4 1; have r2 := blk_cell KR4 2; have r3 := blk_cell KR4 3
        have z0 := blk_frozen KR4 0; have z1 := blk_frozen KR4 1; have z2 := blk_frozen KR4 2; have z3 := blk_frozen KR4 3
        have K4 := Lib.hid KR4
        clear KR4
        go_wp2_with fail
        refine bodyPost_ret (results_tmp_row (p := 5) (u := 4) rfl _ _ w.heap.size _ #[.bool true, .int .i64 0, .int .i64 ((ee : Int) + 1), .slice none 0 0] (0, 0) _ rfl (row4 K4.out _ _ _ _) Try.underlying36 (by rfl) (by kernel_rfl)) rfl ?_
        obtain ⟨L9, hl9, hg9⟩ := HM.out
        exact ⟨L9, hl9, eclo_put xW (blk_lt KR.out) hlt.out hsub.out _ _ _ _ (eclo_idle hg9 x3 _ _)⟩
  refine key.mono fun e w' hk => ⟨fun hq => ?_, fun hq => ?_⟩
  · rw [decide_eq_true hq] at hdn
    subst hdn
    rw [if_pos hq] at hs'
    subst hs'
    exact hk
  · rw [decide_eq_false hq] at hdn
    subst hdn
    rw [if_neg hq] at hs'
    subst hs'
    exact hk
set_option maxHeartbeats 2000000 in
set_option maxRecDepth 100000 in
theorem elook_at (w : World) (C F : Nat → Prop) (gx gm n who i ee : Nat) (L : List AccE) (s : ESt) (p0 p1 p2 p3 : Value) (h : EpAt w C F gx gm n L s) (hL : L.length ≤ 100000) (hw : who < n) (hn : n ≤ 64) (hi : i < n) (hee : ee ≤ 1000000) (hpi : s.pw i ≤ 1000000)
    (k0 : BoxAt w C F p0 (.int .i64 (i : Int))) (k1 : BoxAt w C F p1 (.pointer (some ⟨gx, 0, none⟩))) (k2 : BoxAt w C F p2 (.int .i64 (who : Int))) (k3 : BoxAt w C F p3 (.int .u64 (ee : Int))) :
    Calls Try.prog 102 #[p0, p1, p2, p3] w (fun e w' => ((s.pw i ≠ 0 ∧ s.pw i ≠ ee + 1) → CloSt w C F gx gm n who (L.length + 1) s .idle true 9 0 [] e w') ∧ (¬ (s.pw i ≠ 0 ∧ s.pw i ≠ ee + 1) → CloSt w C F gx gm n who (L.length + 1) s (.look (i + 1) ee) false 0 0 [] e w')) := by
  obtain ⟨b0, rfl, c0, n0, f0⟩ := k0.cell
  obtain ⟨b1, rfl, c1, n1, f1⟩ := k1.cell
  obtain ⟨b2, rfl, c2, n2, f2⟩ := k2.cell
  obtain ⟨b3, rfl, c3, n3, f3⟩ := k3.cell
  obtain ⟨W, hW⟩ : ∃ W, w.alloc (.cells #[.bool false, .int .i64 0, .int .i64 0, .slice none 0 0] 36) = W := ⟨_, rfl⟩
  have xW : Ext w W := by rw [← hW]; exact (Ext.refl w).alloc _
  have KR := Lib.hid (show W.heap[w.heap.size]? = some (.cells #[.bool false, .int .i64 0, .int .i64 0, .slice none 0 0] 36 (0, 0)) by rw [← hW]; exact blk_new w _)
  have hld := fun (u : World) (hx : Ext W u) => (h.ext (xW.trans hx)).pinw hL who i (1 + (i : Int)) (by omega) (by omega) hi
  have hw1 : IntKind.i64.wrap ((1 : Int) + (i : Int)) = 1 + (i : Int) := by rw [IntKind.wrap_i64]; omega
  have hw3 : IntKind.i64.wrap ((i : Int) + 1) = (i : Int) + 1 := by rw [IntKind.wrap_i64]; omega
  have hw2 : IntKind.u64.wrap ((ee : Int) + 1) = (ee : Int) + 1 := by rw [IntKind.wrap_u64]; omega
  obtain ⟨_, dx⟩ := (h.ext xW).x1
  have d0 := ext_cell xW c0; have d1 := ext_cell xW c1; have d2 := ext_cell xW c2; have d3 := ext_cell xW c3; have dc := ext_cell xW (epi_cells h)
  have hlt := Lib.hid h.lt; have hsub := Lib.hid h.sub
  have hin : ((i : Int) == (n : Int)) = false := by rw [beq_eq_false_iff_ne]; omega
  clear c0 c1 c2 c3 h k0 k1 k2 k3
  obtain ⟨pi, hpe⟩ : ∃ pi, s.pw i = pi := ⟨_, rfl⟩
  rw [hpe] at hld hpi ⊢
  have LD := Lib.hid hld
  clear hld
  have HPE := Lib.hid hpe
  clear hpe
  by_cases hq : pi ≠ 0 ∧ pi ≠ ee + 1
  · refine pick_l hq ?_
    have q1 : ((pi : Int) != 0) = true := by rw [bne_iff_ne]; omega
    have q2 : ((pi : Int) != (ee : Int) + 1) = true := by rw [bne_iff_ne]; omega
    clear hq
    go_enter Try.func102, Try.ntmps102
    go_upto_region 1 with fail
    (try rw [hW])
    clear hW
    go_quiet (fail)
    obtain ⟨U, hU⟩ : ∃ U, W.drewN nq = U := ⟨_, rfl⟩
    have xU : Ext W U := by rw [← hU]; exact (Ext.refl W).drewN nq
    have e0 := ext_cell xU d0; have e1 := ext_cell xU d1; have e2 := ext_cell xU d2; have e3 := ext_cell xU d3; have ec := ext_cell xU dc
    have KU := Lib.hid (blk_ext KR.out xU)
    (try rw [hU])
    clear d0 d1 d2 d3 dc
    go_upto_region 6 with fail
    (try rw [hU])
    clear hU
    go_cut [8] (fun v8 wd => v8 = .int .u64 (pi : Int) ∧ EpMid W C F gx gm n (L.length + 1) s wd ∧ GB U wd C)
    case first =>
      go_region_held3 (fun w' => w'.cell? ⟨b0, 0, none⟩ = some (.int .i64 (i : Int)) ∧ w'.cell? ⟨b1, 0, none⟩ = some (.pointer (some ⟨gx, 0, none⟩)) ∧ w'.cell? ⟨b2, 0, none⟩ = some (.int .i64 (who : Int)) ∧ w'.cell? ⟨gx, 0, none⟩ = some (.pointer (some ⟨gm, 0, none⟩)))
        (((try go_split_ands); refine ⟨?_, ?_, ?_, ?_⟩ <;> first | assumption | (with_reducible exact drew_cell e0) | (with_reducible exact drew_cell e1) | (with_reducible exact drew_cell e2) | (with_reducible exact drew_cell ec)))
        ((go_at_call 80; (with_reducible refine (LD.out U.drew xU.drew).mono ?_); rintro e w2 ⟨rfl, hg⟩; have HG : Hid (EpMid U C F gx gm n (L.length + 1) s w2) := Lib.hid ⟨_, by simp, hg.back (Ext.refl U).drew⟩; have HW : Hid (EpMid W C F gx gm n (L.length + 1) s w2) := Lib.hid ⟨_, by simp, hg.back xU.drew⟩; obtain ⟨tc, g2⟩ := HG.out.keep; have t0 := g2.cell e0 n0; have t1 := g2.cell e1 n1; have t2 := g2.cell e2 n2; clear g2 hg))
      all_goals
        go_wp2_with fail
        go_meet
        exact ⟨rfl, HW.out, HG.out.keep.2⟩
    case rest =>
      obtain ⟨rfl, hcut, g2⟩ := hcut
      have HM := Lib.hid hcut
      have KR2 := Lib.hid (g2.blk KU.out (fun e => Nat.lt_irrefl _ (hlt.out _ (hsub.out _ e))))
      have t0 := g2.cell e0 n0; have t1 := g2.cell e1 n1; have t2 := g2.cell e2 n2; have t3 := g2.cell e3 n3
      clear e0 e1 e2 e3 ec hcut g2 dx
      go_wp2_with fail
      refine (eend_any 9 0 _ (by omega)).mono ?_
      rintro e w3 ⟨rfl, x3⟩
      have KR4 := blk_ext KR2.out x3
      have r0 := blk_cell KR4 0; have r1 := blk_cell KR4 1; have r2 := blk_cell KR4 2; have r3 := blk_cell KR4 3
      have z0 := blk_frozen KR4 0; have z1 := blk_frozen KR4 1; have z2 := blk_frozen KR4 2; have z3 := blk_frozen KR4 3
      have K4 := Lib.hid KR4
      clear KR4
      go_wp2_with fail
      refine bodyPost_ret (results_tmp_row (p := 5) (u := 4) rfl _ _ w.heap.size _ #[.bool true, .int .i64 9, .int .i64 0, .slice none 0 0] (0, 0) _ rfl (row4 K4.out _ _ _ _) Try.underlying36 (by rfl) (by kernel_rfl)) rfl ?_
      obtain ⟨L9, hl9, hg9⟩ := HM.out
      exact ⟨L9, hl9, eclo_put xW (blk_lt KR.out) hlt.out hsub.out _ _ _ _ (eclo_idle hg9 x3 _ _)⟩
  · refine pick_r hq ?_
    by_cases hz : pi = 0
    · have q1 : ((pi : Int) != 0) = false := by rw [bne_eq_false_iff_eq]; omega
      clear hq hz
      go_enter Try.func102, Try.ntmps102
      go_upto_region 1 with fail
      (try rw [hW])
      clear hW
      go_quiet (fail)
      obtain ⟨U, hU⟩ : ∃ U, W.drewN nq = U := ⟨_, rfl⟩
      have xU : Ext W U := by rw [← hU]; exact (Ext.refl W).drewN nq
      have e0 := ext_cell xU d0; have e1 := ext_cell xU d1; have e2 := ext_cell xU d2; have e3 := ext_cell xU d3; have ec := ext_cell xU dc
      have KU := Lib.hid (blk_ext KR.out xU)
      (try rw [hU])
      clear d0 d1 d2 d3 dc
      go_upto_region 6 with fail
      (try rw [hU])
      clear hU
      go_cut [8] (fun v8 wd => v8 = .int .u64 (pi : Int) ∧ EpMid W C F gx gm n (L.length + 1) s wd ∧ GB U wd C)
      case first =>
        go_region_held3 (fun w' => w'.cell? ⟨b0, 0, none⟩ = some (.int .i64 (i : Int)) ∧ w'.cell? ⟨b1, 0, none⟩ = some (.pointer (some ⟨gx, 0, none⟩)) ∧ w'.cell? ⟨b2, 0, none⟩ = some (.int .i64 (who : Int)) ∧ w'.cell? ⟨gx, 0, none⟩ = some (.pointer (some ⟨gm, 0, none⟩)))
          (((try go_split_ands); refine ⟨?_, ?_, ?_, ?_⟩ <;> first | assumption | (with_reducible exact drew_cell e0) | (with_reducible exact drew_cell e1) | (with_reducible exact drew_cell e2) | (with_reducible exact drew_cell ec)))
          ((go_at_call 80; (with_reducible refine (LD.out U.drew xU.drew).mono ?_); rintro e w2 ⟨rfl, hg⟩; have HG : Hid (EpMid U C F gx gm n (L.length + 1) s w2) := Lib.hid ⟨_, by simp, hg.back (Ext.refl U).drew⟩; have HW : Hid (EpMid W C F gx gm n (L.length + 1) s w2) := Lib.hid ⟨_, by simp, hg.back xU.drew⟩; obtain ⟨tc, g2⟩ := HG.out.keep; have t0 := g2.cell e0 n0; have t1 := g2.cell e1 n1; have t2 := g2.cell e2 n2; clear g2 hg))
        all_goals
          go_wp2_with fail
          go_meet
          exact ⟨rfl, HW.out, HG.out.keep.2⟩
      case rest =>
        obtain ⟨rfl, hcut, g2⟩ := hcut
        have HM := Lib.hid hcut
        have KR2 := Lib.hid (g2.blk KU.out (fun e => Nat.lt_irrefl _ (hlt.out _ (hsub.out _ e))))
        have t0 := g2.cell e0 n0; have t1 := g2.cell e1 n1; have t2 := g2.cell e2 n2; have t3 := g2.cell e3 n3
        clear e0 e1 e2 e3 ec hcut g2 dx
        have LK : ∀ x : Int, x = ((i + 1 : Nat) : Int) → Calls Try.prog 83 #[.pointer (some ⟨gx, 0, none⟩), .int .i64 (who : Int), .int .i64 x, .int .u64 (ee : Int)] wc (PendNew wc gx who (.look (i + 1) ee)) := fun x hx => by subst hx; exact elook_any wc gx who (i + 1) ee
        have HLK := Lib.hid LK
        clear LK
        go_wp2_with fail
        refine (HLK.out _ (by omega)).mono ?_
        rintro e w3 ⟨v, rfl, _, ⟨f9, c9, rfl⟩, x3, hp⟩
        have HP := Lib.hid hp
        have KR4 := blk_ext KR2.out x3
        have r0 := blk_cell KR4 0; have r1 := blk_cell KR4 1; have r2 := blk_cell KR4 2; have r3 := blk_cell KR4 3
        have z0 := blk_frozen KR4 0; have z1 := blk_frozen KR4 1; have z2 := blk_frozen KR4 2; have z3 := blk_frozen KR4 3
        have K4 := Lib.hid KR4
        clear KR4 hp
        go_wp2_with fail
        refine bodyPost_ret (results_tmp_row (p := 5) (u := 4) rfl _ _ w.heap.size _ #[.bool false, .int .i64 0, .int .i64 0, .slice none 0 0] (0, 0) _ rfl (row4 K4.out _ _ _ _) Try.underlying36 (by rfl) (by kernel_rfl)) rfl ?_
        obtain ⟨L9, hl9, hg9⟩ := HM.out
        exact ⟨L9, hl9, eclo_put xW (blk_lt KR.out) hlt.out hsub.out _ _ _ _ (eclo_of hg9 x3 (fun C9 F9 hC9 _ _ _ => HP.out C9 F9 hC9) _ _ _)⟩
    · have q1 : ((pi : Int) != 0) = true := by rw [bne_iff_ne]; omega
      have q2 : ((pi : Int) != (ee : Int) + 1) = false := by rw [bne_eq_false_iff_eq]; omega
      clear hq hz
      go_enter Try.func102, Try.ntmps102
      go_upto_region 1 with fail
      (try rw [hW])
      clear hW
      go_quiet (fail)
      obtain ⟨U, hU⟩ : ∃ U, W.drewN nq = U := ⟨_, rfl⟩
      have xU : Ext W U := by rw [← hU]; exact (Ext.refl W).drewN nq
      have e0 := ext_cell xU d0; have e1 := ext_cell xU d1; have e2 := ext_cell xU d2; have e3 := ext_cell xU d3; have ec := ext_cell xU dc
      have KU := Lib.hid (blk_ext KR.out xU)
      (try rw [hU])
      clear d0 d1 d2 d3 dc
      go_upto_region 6 with fail
      (try rw [hU])
      clear hU
      go_cut [8] (fun v8 wd => v8 = .int .u64 (pi : Int) ∧ EpMid W C F gx gm n (L.length + 1) s wd ∧ GB U wd C)
      case first =>
        go_region_held3 (fun w' => w'.cell? ⟨b0, 0, none⟩ = some (.int .i64 (i : Int)) ∧ w'.cell? ⟨b1, 0, none⟩ = some (.pointer (some ⟨gx, 0, none⟩)) ∧ w'.cell? ⟨b2, 0, none⟩ = some (.int .i64 (who : Int)) ∧ w'.cell? ⟨gx, 0, none⟩ = some (.pointer (some ⟨gm, 0, none⟩)))
          (((try go_split_ands); refine ⟨?_, ?_, ?_, ?_⟩ <;> first | assumption | (with_reducible exact drew_cell e0) | (with_reducible exact drew_cell e1) | (with_reducible exact drew_cell e2) | (with_reducible exact drew_cell ec)))
          ((go_at_call 80; (with_reducible refine (LD.out U.drew xU.drew).mono ?_); rintro e w2 ⟨rfl, hg⟩; have HG : Hid (EpMid U C F gx gm n (L.length + 1) s w2) := Lib.hid ⟨_, by simp, hg.back (Ext.refl U).drew⟩; have HW : Hid (EpMid W C F gx gm n (L.length + 1) s w2) := Lib.hid ⟨_, by simp, hg.back xU.drew⟩; obtain ⟨tc, g2⟩ := HG.out.keep; have t0 := g2.cell e0 n0; have t1 := g2.cell e1 n1; have t2 := g2.cell e2 n2; clear g2 hg))
        all_goals
          go_wp2_with fail
          go_meet
          exact ⟨rfl, HW.out, HG.out.keep.2⟩
      case rest =>
        obtain ⟨rfl, hcut, g2⟩ := hcut
        have HM := Lib.hid hcut
        have KR2 := Lib.hid (g2.blk KU.out (fun e => Nat.lt_irrefl _ (hlt.out _ (hsub.out _ e))))
        have t0 := g2.cell e0 n0; have t1 := g2.cell e1 n1; have t2 := g2.cell e2 n2; have t3 := g2.cell e3 n3
        clear e0 e1 e2 e3 ec hcut g2 dx
        have LK : ∀ x : Int, x = ((i + 1 : Nat) : Int) → Calls Try.prog 83 #[.pointer (some ⟨gx, 0, none⟩), .int .i64 (who : Int), .int .i64 x, .int .u64 (ee : Int)] wc (PendNew wc gx who (.look (i + 1) ee)) := fun x hx => by subst hx; exact elook_any wc gx who (i + 1) ee
        have HLK := Lib.hid LK
        clear LK
        go_wp2_with fail
        refine (HLK.out _ (by omega)).mono ?_
        rintro e w3 ⟨v, rfl, _, ⟨f9, c9, rfl⟩, x3, hp⟩
        have HP := Lib.hid hp
        have KR4 := blk_ext KR2.out x3
        have r0 := blk_cell KR4 0; have r1 := blk_cell KR4 1; have r2 := blk_cell KR4 2; have r3 := blk_cell KR4 3
        have z0 := blk_frozen KR4 0; have z1 := blk_frozen KR4 1; have z2 := blk_frozen KR4 2; have z3 := blk_frozen KR4 3
        have K4 := Lib.hid KR4
        clear KR4 hp
        go_wp2_with fail
        refine bodyPost_ret (results_tmp_row (p := 5) (u := 4) rfl _ _ w.heap.size _ #[.bool false, .int .i64 0, .int .i64 0, .slice none 0 0] (0, 0) _ rfl (row4 K4.out _ _ _ _) Try.underlying36 (by rfl) (by kernel_rfl)) rfl ?_
        obtain ⟨L9, hl9, hg9⟩ := HM.out
        exact ⟨L9, hl9, eclo_put xW (blk_lt KR.out) hlt.out hsub.out _ _ _ _ (eclo_of hg9 x3 (fun C9 F9 hC9 _ _ _ => HP.out C9 F9 hC9) _ _ _)⟩
end Go.Proofs.Ytlgggeeflomelaa
