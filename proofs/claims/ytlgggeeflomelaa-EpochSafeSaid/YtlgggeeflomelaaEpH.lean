/- epoch: the function of a call that has begun (written by gen_eph.py). -/
import Derived.Test.YtlgggeeflomelaaEpG
namespace Go.Proofs.Ytlgggeeflomelaa
open Go.RowKit

set_option maxHeartbeats 1000000 in
set_option maxRecDepth 100000 in
theorem ebeg_pin (w : World) (C F : Nat → Prop) (gx gm n who : Nat) (thing : Int) (L : List AccE) (s : ESt) (p0 p1 p2 p3 : Value) (h : EpAt w C F gx gm n L s) (hL : L.length ≤ 100000) (hw : who < n) (hn : n ≤ 64) 
    (k0 : BoxAt w C F p0 (.pointer (some ⟨gx, 0, none⟩))) (k1 : BoxAt w C F p1 (.int .i64 (who : Int))) (k2 : BoxAt w C F p2 (.int .u8 1)) (k3 : BoxAt w C F p3 (.int .i64 thing)) :
    Calls Try.prog 79 #[p0, p1, p2, p3] w (CloSt w C F gx gm n who (L.length + 1) s (.pinS 0 s.ep) false 0 0 []) := by
  obtain ⟨b0, rfl, c0, n0, f0⟩ := k0.cell
  obtain ⟨b1, rfl, c1, n1, f1⟩ := k1.cell
  obtain ⟨b2, rfl, c2, n2, f2⟩ := k2.cell
  obtain ⟨b3, rfl, c3, n3, f3⟩ := k3.cell
  obtain ⟨W, hW⟩ : ∃ W, w.alloc (.cells #[.bool false, .int .i64 0, .int .i64 0, .slice none 0 0] 36) = W := ⟨_, rfl⟩
  have xW : Ext w W := by rw [← hW]; exact (Ext.refl w).alloc _
  have KR := Lib.hid (show W.heap[w.heap.size]? = some (.cells #[.bool false, .int .i64 0, .int .i64 0, .slice none 0 0] 36 (0, 0)) by rw [← hW]; exact blk_new w _)
  have LD := Lib.hid (fun (u : World) (hx : Ext W u) => (h.ext (xW.trans hx)).word hL who (by omega))
  have d0 := ext_cell xW c0; have d1 := ext_cell xW c1; have d2 := ext_cell xW c2; have d3 := ext_cell xW c3; have dc := ext_cell xW (epi_cells h)
  have HLT := Lib.hid h.lt; have hsub := Lib.hid h.sub
  clear c0 c1 c2 c3 h k0 k1 k2 k3
  obtain ⟨ep, hep⟩ : ∃ ep, s.ep = ep := ⟨_, rfl⟩
  rw [hep] at LD ⊢
  have HEP := Lib.hid hep
  clear hep
  go_enter Try.func79, Try.ntmps79
  go_upto_region 1 with fail
  (try rw [hW])
  clear hW
  go_cut [6] (fun v6 wd => v6 = .int .u64 (ep : Int) ∧ EpMid W C F gx gm n (L.length + 1) s wd)
  case first =>
    go_region_held3 (fun w' => w'.cell? ⟨b0, 0, none⟩ = some (.pointer (some ⟨gx, 0, none⟩)) ∧ w'.cell? ⟨b1, 0, none⟩ = some (.int .i64 (who : Int)) ∧ w'.cell? ⟨gx, 0, none⟩ = some (.pointer (some ⟨gm, 0, none⟩)))
      (((try go_split_ands); refine ⟨?_, ?_, ?_⟩ <;> first | assumption | (with_reducible exact drew_cell d0) | (with_reducible exact drew_cell d1) | (with_reducible exact drew_cell dc)))
      ((go_at_call 80; (with_reducible refine (LD.out W.drew (Ext.refl W).drew).mono ?_); rintro e w2 ⟨rfl, hg⟩; have HG : Hid (EpMid W C F gx gm n (L.length + 1) s w2) := Lib.hid ⟨_, by simp, hg.back (Ext.refl W).drew⟩; obtain ⟨tc, g2⟩ := HG.out.keep; have t0 := g2.cell d0 n0; have t1 := g2.cell d1 n1; clear g2 hg))
    all_goals
      go_wp2_with fail
      go_meet
      exact ⟨rfl, HG.out⟩
  case rest =>
    obtain ⟨rfl, hcut⟩ := hcut
    have HM := Lib.hid hcut
    obtain ⟨L', C', F', hl, hE, g2, fC, fF, fF'⟩ := hcut.out
    have KR2 := Lib.hid (g2.blk KR.out (fun e => Nat.lt_irrefl _ (HLT.out _ (hsub.out _ e))))
    have e0 := g2.cell d0 n0; have e1 := g2.cell d1 n1; have e2 := g2.cell d2 n2; have e3 := g2.cell d3 n3
    clear d0 d1 d2 d3 dc hcut hE g2 fC fF fF'
    go_wp2_with fail
    refine (epin_any wc gx who 0 ep).mono ?_
    rintro e w3 ⟨v, rfl, _, ⟨f9, c9, rfl⟩, x3, hp⟩
    have HP := Lib.hid hp
    have KR4 := blk_ext KR2.out x3
    have r0 := blk_cell KR4 0; have r1 := blk_cell KR4 1; have r2 := blk_cell KR4 2; have r3 := blk_cell KR4 3
    have z0 := blk_frozen KR4 0; have z1 := blk_frozen KR4 1; have z2 := blk_frozen KR4 2; have z3 := blk_frozen KR4 3
    have K4 := Lib.hid KR4
    clear KR4 hp
    go_wp2_with fail
    refine bodyPost_ret (results_tmp_row (p := 5) (u := 4) rfl _ _ w.heap.size _ #[.bool false, .int .i64 0, .int .i64 0, .slice none 0 0] (0, 0) _ rfl (row4 K4.out _ _ _ _) Try.underlying36 (by rfl) (by kernel_rfl)) rfl ?_
    obtain ⟨L9, hl9, hg9⟩ := HM.out
    exact ⟨L9, hl9, eclo_put xW (blk_lt KR.out) HLT.out hsub.out _ _ _ _ (eclo_of hg9 x3 (fun C9 F9 hC9 _ _ _ => HP.out C9 F9 hC9) _ _ _)⟩
set_option maxHeartbeats 1000000 in
set_option maxRecDepth 100000 in
theorem ebeg_adv (w : World) (C F : Nat → Prop) (gx gm n who : Nat) (thing : Int) (L : List AccE) (s : ESt) (p0 p1 p2 p3 : Value) (h : EpAt w C F gx gm n L s) (hL : L.length ≤ 100000) (hw : who < n) (hn : n ≤ 64) 
    (k0 : BoxAt w C F p0 (.pointer (some ⟨gx, 0, none⟩))) (k1 : BoxAt w C F p1 (.int .i64 (who : Int))) (k2 : BoxAt w C F p2 (.int .u8 4)) (k3 : BoxAt w C F p3 (.int .i64 thing)) :
    Calls Try.prog 79 #[p0, p1, p2, p3] w (CloSt w C F gx gm n who (L.length + 1) s (.look 0 s.ep) false 0 0 []) := by
  obtain ⟨b0, rfl, c0, n0, f0⟩ := k0.cell
  obtain ⟨b1, rfl, c1, n1, f1⟩ := k1.cell
  obtain ⟨b2, rfl, c2, n2, f2⟩ := k2.cell
  obtain ⟨b3, rfl, c3, n3, f3⟩ := k3.cell
  obtain ⟨W, hW⟩ : ∃ W, w.alloc (.cells #[.bool false, .int .i64 0, .int .i64 0, .slice none 0 0] 36) = W := ⟨_, rfl⟩
  have xW : Ext w W := by rw [← hW]; exact (Ext.refl w).alloc _
  have KR := Lib.hid (show W.heap[w.heap.size]? = some (.cells #[.bool false, .int .i64 0, .int .i64 0, .slice none 0 0] 36 (0, 0)) by rw [← hW]; exact blk_new w _)
  have LD := Lib.hid (fun (u : World) (hx : Ext W u) => (h.ext (xW.trans hx)).word hL who (by omega))
  have d0 := ext_cell xW c0; have d1 := ext_cell xW c1; have d2 := ext_cell xW c2; have d3 := ext_cell xW c3; have dc := ext_cell xW (epi_cells h)
  have HLT := Lib.hid h.lt; have hsub := Lib.hid h.sub
  clear c0 c1 c2 c3 h k0 k1 k2 k3
  obtain ⟨ep, hep⟩ : ∃ ep, s.ep = ep := ⟨_, rfl⟩
  rw [hep] at LD ⊢
  have HEP := Lib.hid hep
  clear hep
  go_enter Try.func79, Try.ntmps79
  go_upto_region 1 with fail
  (try rw [hW])
  clear hW
  go_cut [6] (fun v6 wd => v6 = .int .u64 (ep : Int) ∧ EpMid W C F gx gm n (L.length + 1) s wd)
  case first =>
    go_region_held3 (fun w' => w'.cell? ⟨b0, 0, none⟩ = some (.pointer (some ⟨gx, 0, none⟩)) ∧ w'.cell? ⟨b1, 0, none⟩ = some (.int .i64 (who : Int)) ∧ w'.cell? ⟨gx, 0, none⟩ = some (.pointer (some ⟨gm, 0, none⟩)))
      (((try go_split_ands); refine ⟨?_, ?_, ?_⟩ <;> first | assumption | (with_reducible exact drew_cell d0) | (with_reducible exact drew_cell d1) | (with_reducible exact drew_cell dc)))
      ((go_at_call 80; (with_reducible refine (LD.out W.drew (Ext.refl W).drew).mono ?_); rintro e w2 ⟨rfl, hg⟩; have HG : Hid (EpMid W C F gx gm n (L.length + 1) s w2) := Lib.hid ⟨_, by simp, hg.back (Ext.refl W).drew⟩; obtain ⟨tc, g2⟩ := HG.out.keep; have t0 := g2.cell d0 n0; have t1 := g2.cell d1 n1; clear g2 hg))
    all_goals
      go_wp2_with fail
      go_meet
      exact ⟨rfl, HG.out⟩
  case rest =>
    obtain ⟨rfl, hcut⟩ := hcut
    have HM := Lib.hid hcut
    obtain ⟨L', C', F', hl, hE, g2, fC, fF, fF'⟩ := hcut.out
    have KR2 := Lib.hid (g2.blk KR.out (fun e => Nat.lt_irrefl _ (HLT.out _ (hsub.out _ e))))
    have e0 := g2.cell d0 n0; have e1 := g2.cell d1 n1; have e2 := g2.cell d2 n2; have e3 := g2.cell d3 n3
    clear d0 d1 d2 d3 dc hcut hE g2 fC fF fF'
    go_wp2_with fail
    refine (elook_any wc gx who 0 ep).mono ?_
    rintro e w3 ⟨v, rfl, _, ⟨f9, c9, rfl⟩, x3, hp⟩
    have HP := Lib.hid hp
    have KR4 := blk_ext KR2.out x3
    have r0 := blk_cell KR4 0; have r1 := blk_cell KR4 1; have r2 := blk_cell KR4 2; have r3 := blk_cell KR4 3
    have z0 := blk_frozen KR4 0; have z1 := blk_frozen KR4 1; have z2 := blk_frozen KR4 2; have z3 := blk_frozen KR4 3
    have K4 := Lib.hid KR4
    clear KR4 hp
    go_wp2_with fail
    refine bodyPost_ret (results_tmp_row (p := 5) (u := 4) rfl _ _ w.heap.size _ #[.bool false, .int .i64 0, .int .i64 0, .slice none 0 0] (0, 0) _ rfl (row4 K4.out _ _ _ _) Try.underlying36 (by rfl) (by kernel_rfl)) rfl ?_
    obtain ⟨L9, hl9, hg9⟩ := HM.out
    exact ⟨L9, hl9, eclo_put xW (blk_lt KR.out) HLT.out hsub.out _ _ _ _ (eclo_of hg9 x3 (fun C9 F9 hC9 _ _ _ => HP.out C9 F9 hC9) _ _ _)⟩
theorem eclo_trans {W w2 w3 : World} {C F C' F' : Nat → Prop} {gx gm n who : Nat} {L : List AccE} {s : ESt} {cl : ECall} {done : Bool} {er nu : Int} {xs : List Int} {e : Ending} (g : GB W w2 C) (hC : ∀ i, C' i → C i ∨ W.heap.size ≤ i) (hF : ∀ i, F i → F' i) (hF' : ∀ i, F' i → F i ∨ W.heap.size ≤ i) (h : EClo w2 C' F' gx gm n who L s cl done er nu xs e w3) : EClo W C F gx gm n who L s cl done er nu xs e w3 := by
  obtain ⟨v, A, m, k, C9, F9, rfl, h1, h2, h3, h4, h5, h6, h7, h8⟩ := h
  refine ⟨v, A, m, k, C9, F9, rfl, h1, h2, g.trans h3 hC, fun i hi => ?_, fun i hi => h5 i (hF i hi), fun i hi => ?_, own_base h7 g.size, h8⟩
  · rcases h4 i hi with h | h
    · exact hC i h
    · exact .inr (Nat.le_trans g.size h)
  · rcases h6 i hi with h | h
    · exact hF' i h
    · exact .inr (Nat.le_trans g.size h)
set_option maxHeartbeats 1000000 in
set_option maxRecDepth 100000 in
theorem ebeg_coll (w : World) (C F : Nat → Prop) (gx gm n who : Nat) (thing : Int) (L : List AccE) (s : ESt) (p0 p1 p2 p3 : Value) (h : EpAt w C F gx gm n L s) (hL : L.length ≤ 100000) (hw : who < n) (hn : n ≤ 64)  (hse : s.ep ≤ 1000000) (hlen : (s.wk who).held.length ≤ 1000000) (hepb : ∀ t ∈ (s.wk who).held, t.2 ≤ 1000000)
    (k0 : BoxAt w C F p0 (.pointer (some ⟨gx, 0, none⟩))) (k1 : BoxAt w C F p1 (.int .i64 (who : Int))) (k2 : BoxAt w C F p2 (.int .u8 5)) (k3 : BoxAt w C F p3 (.int .i64 thing)) :
    Calls Try.prog 79 #[p0, p1, p2, p3] w (CloSt w C F gx gm n who (L.length + 1) (s.put who { s.wk who with held := stayOf s.ep (s.wk who).held }) .idle true 0 (oldOf s.ep (s.wk who).held).length (oldOf s.ep (s.wk who).held)) := by
  obtain ⟨b0, rfl, c0, n0, f0⟩ := k0.cell
  obtain ⟨b1, rfl, c1, n1, f1⟩ := k1.cell
  obtain ⟨b2, rfl, c2, n2, f2⟩ := k2.cell
  obtain ⟨b3, rfl, c3, n3, f3⟩ := k3.cell
  obtain ⟨W, hW⟩ : ∃ W, w.alloc (.cells #[.bool false, .int .i64 0, .int .i64 0, .slice none 0 0] 36) = W := ⟨_, rfl⟩
  have xW : Ext w W := by rw [← hW]; exact (Ext.refl w).alloc _
  have KR := Lib.hid (show W.heap[w.heap.size]? = some (.cells #[.bool false, .int .i64 0, .int .i64 0, .slice none 0 0] 36 (0, 0)) by rw [← hW]; exact blk_new w _)
  have LD := Lib.hid (fun (u : World) (hx : Ext W u) => (h.ext (xW.trans hx)).word hL who (by omega))
  have d0 := ext_cell xW c0; have d1 := ext_cell xW c1; have d2 := ext_cell xW c2; have d3 := ext_cell xW c3; have dc := ext_cell xW (epi_cells h)
  have HLT := Lib.hid h.lt; have hsub := Lib.hid h.sub
  clear c0 c1 c2 c3 h k0 k1 k2 k3
  obtain ⟨ep, hep⟩ : ∃ ep, s.ep = ep := ⟨_, rfl⟩
  rw [hep] at LD ⊢
  have HEP := Lib.hid hep
  clear hep
  go_enter Try.func79, Try.ntmps79
  go_upto_region 1 with fail
  (try rw [hW])
  clear hW
  go_cut [6] (fun v6 wd => v6 = .int .u64 (ep : Int) ∧ EpMid W C F gx gm n (L.length + 1) s wd)
  case first =>
    go_region_held3 (fun w' => w'.cell? ⟨b0, 0, none⟩ = some (.pointer (some ⟨gx, 0, none⟩)) ∧ w'.cell? ⟨b1, 0, none⟩ = some (.int .i64 (who : Int)) ∧ w'.cell? ⟨gx, 0, none⟩ = some (.pointer (some ⟨gm, 0, none⟩)))
      (((try go_split_ands); refine ⟨?_, ?_, ?_⟩ <;> first | assumption | (with_reducible exact drew_cell d0) | (with_reducible exact drew_cell d1) | (with_reducible exact drew_cell dc)))
      ((go_at_call 80; (with_reducible refine (LD.out W.drew (Ext.refl W).drew).mono ?_); rintro e w2 ⟨rfl, hg⟩; have HG : Hid (EpMid W C F gx gm n (L.length + 1) s w2) := Lib.hid ⟨_, by simp, hg.back (Ext.refl W).drew⟩; obtain ⟨tc, g2⟩ := HG.out.keep; have t0 := g2.cell d0 n0; have t1 := g2.cell d1 n1; clear g2 hg))
    all_goals
      go_wp2_with fail
      go_meet
      exact ⟨rfl, HG.out⟩
  case rest =>
    obtain ⟨rfl, hcut⟩ := hcut
    have HM := Lib.hid hcut
    obtain ⟨L', C', F', hl, hE, g2, fC, fF, fF'⟩ := hcut.out
    have KR2 := Lib.hid (g2.blk KR.out (fun e => Nat.lt_irrefl _ (HLT.out _ (hsub.out _ e))))
    have e0 := g2.cell d0 n0; have e1 := g2.cell d1 n1; have e2 := g2.cell d2 n2; have e3 := g2.cell d3 n3
    have HEP2 := HEP.out
    have CO := Lib.hid (ecollect_any wc C' F' gx gm n who ep L' s hE hw (HEP2 ▸ hse) hlen hepb)
    rw [hl] at CO
    have GG := Lib.hid g2; have GC := Lib.hid fC; have GF := Lib.hid fF; have GF' := Lib.hid fF'
    clear d0 d1 d2 d3 dc hcut hE g2 fC fF fF' HEP2
    go_wp2_with fail
    refine CO.out.mono ?_
    rintro e w3 ⟨L9, hl9, hc⟩
    have HC := Lib.hid (eclo_trans GG.out GC.out GF.out GF'.out hc)
    have g3 : GB wc w3 C' := by obtain ⟨_, _, _, _, _, _, _, _, _, h, _⟩ := hc; exact h
    have hn2 : ¬ C' w.heap.size := fun e => (GC.out _ e).elim (fun e => Nat.lt_irrefl _ (HLT.out _ (hsub.out _ e))) (fun e => by have := blk_lt KR.out; omega)
    have KR4 := g3.blk KR2.out hn2
    obtain ⟨v, A, m, k, C9, F9, rfl, h1, h2, _⟩ := hc
    have hv : v = .nilFunc := h2
    subst hv
    have r0 := blk_cell KR4 0; have r1 := blk_cell KR4 1; have r2 := blk_cell KR4 2; have r3 := blk_cell KR4 3
    have z0 := blk_frozen KR4 0; have z1 := blk_frozen KR4 1; have z2 := blk_frozen KR4 2; have z3 := blk_frozen KR4 3
    have K4 := Lib.hid KR4
    clear KR4 h1 h2 g3 hn2 e0 e1 e2 e3
    go_wp2_with fail
    refine bodyPost_ret (results_tmp_row (p := 5) (u := 4) rfl _ _ w.heap.size _ #[.bool true, .int .i64 0, .int .i64 _, .slice A m k] (0, 0) _ rfl (row4 K4.out _ _ _ _) Try.underlying36 (by rfl) (by kernel_rfl)) rfl ?_
    exact ⟨L9, hl9, eclo_put xW (blk_lt KR.out) HLT.out hsub.out _ _ _ _ HC.out⟩
end Go.Proofs.Ytlgggeeflomelaa
