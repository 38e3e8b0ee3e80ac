/- epoch: Pin's functions. -/
import Derived.Test.YtlgggeeflomelaaEpC
import Derived.Deep.RegionWith
namespace Go.Proofs.Ytlgggeeflomelaa
open Go.RowKit

def CloSt (w : World) (C F : Nat → Prop) (gx gm n who k : Nat) (s : ESt) (cl : ECall) (done : Bool) (er nu : Int) (xs : List Int) (e : Ending) (w' : World) : Prop := ∃ L', L'.length = k ∧ EClo w C F gx gm n who L' s cl done er nu xs e w'
/-- what is known of the world behind a call of the machine -/
def EpMid (W : World) (C F : Nat → Prop) (gx gm n k : Nat) (s : ESt) (w2 : World) : Prop := ∃ L', L'.length = k ∧ EpGo W C F gx gm n L' s w2
theorem EpMid.out {W w2 : World} {C F : Nat → Prop} {gx gm n k : Nat} {s : ESt} (h : EpMid W C F gx gm n k s w2) : ∃ L' C' F', L'.length = k ∧ EpAt w2 C' F' gx gm n L' s ∧ GB W w2 C ∧ (∀ i, C' i → C i ∨ W.heap.size ≤ i) ∧ (∀ i, F i → F' i) ∧ (∀ i, F' i → F i ∨ W.heap.size ≤ i) := by
  obtain ⟨L', h0, C', F', h1, h2, h3, h4, h5⟩ := h
  exact ⟨L', C', F', h0, h1, h2, h3, h4, h5⟩
theorem EpMid.keep {W w2 : World} {C F : Nat → Prop} {gx gm n k : Nat} {s : ESt} (h : EpMid W C F gx gm n k s w2) : w2.cell? ⟨gx, 0, none⟩ = some (.pointer (some ⟨gm, 0, none⟩)) ∧ GB W w2 C := by
  obtain ⟨L', C', F', h0, h1, h2, _⟩ := h.out
  exact ⟨epi_cells h1, h2⟩
set_option maxHeartbeats 2000000 in
set_option maxRecDepth 100000 in
theorem epinS_any (w : World) (C F : Nat → Prop) (gx gm n who old ee : Nat) (L : List AccE) (s : ESt) (p0 p1 p2 p3 : Value) (h : EpAt w C F gx gm n L s) (hL : L.length ≤ 100000) (hw : who < n) (hn : n ≤ 64) (hee : ee ≤ 1000000)
    (k0 : BoxAt w C F p0 (.pointer (some ⟨gx, 0, none⟩))) (k1 : BoxAt w C F p1 (.int .i64 (who : Int))) (k2 : BoxAt w C F p2 (.int .u64 (old : Int))) (k3 : BoxAt w C F p3 (.int .u64 (ee : Int))) :
    Calls Try.prog 100 #[p0, p1, p2, p3] w (CloSt w C F gx gm n who (L.length + 1) { s with pw := if s.pw who = old then updG s.pw who (ee + 1) else s.pw } (.pinL ee) false 0 0 []) := by
  have hmf := hmfC
  have K0 := Lib.hid k0; have K1 := Lib.hid k1; have K3 := Lib.hid k3
  obtain ⟨b0, rfl, c0, n0, f0⟩ := k0.cell
  obtain ⟨b1, rfl, c1, n1, f1⟩ := k1.cell
  obtain ⟨b2, rfl, c2, n2, f2⟩ := k2.cell
  obtain ⟨b3, rfl, c3, n3, f3⟩ := k3.cell
  obtain ⟨W, hW⟩ : ∃ W, w.alloc (.cells #[.bool false, .int .i64 0, .int .i64 0, .slice none 0 0] 36) = W := ⟨_, rfl⟩
  have xW : Ext w W := by rw [← hW]; exact (Ext.refl w).alloc _
  have KR := Lib.hid (show W.heap[w.heap.size]? = some (.cells #[.bool false, .int .i64 0, .int .i64 0, .slice none 0 0] 36 (0, 0)) by rw [← hW]; exact blk_new w _)
  have SW := Lib.hid (fun (u : World) (hx : Ext W u) => (h.ext (xW.trans hx)).swapw hL who old (ee + 1) (1 + (who : Int)) ((ee : Int) + 1) (by omega) (by omega) (by omega) hw)
  have hw1 : IntKind.i64.wrap ((1 : Int) + (who : Int)) = 1 + (who : Int) := by rw [IntKind.wrap_i64]; omega
  have hw2 : IntKind.u64.wrap ((ee : Int) + 1) = (ee : Int) + 1 := by rw [IntKind.wrap_u64]; omega
  have d0 := ext_cell xW c0; have d1 := ext_cell xW c1; have d2 := ext_cell xW c2; have d3 := ext_cell xW c3; have dc := ext_cell xW (epi_cells h)
  obtain ⟨s', hs'⟩ : ∃ s', { s with pw := if s.pw who = old then updG s.pw who (ee + 1) else s.pw } = s' := ⟨_, rfl⟩
  rw [hs'] at SW ⊢
  clear hs'
  have hlt := Lib.hid h.lt; have hsub := Lib.hid h.sub
  clear c0 c1 c2 c3 h k0 k1 k2 k3
  go_enter Try.func100, Try.ntmps100
  go_upto_region 1 with fail
  (try rw [hW])
  clear hW
  go_cut [] (fun wd => EpMid W C F gx gm n (L.length + 1) s' wd)
  case first =>
    go_region_held3 (fun w' => w'.cell? ⟨b0, 0, none⟩ = some (.pointer (some ⟨gx, 0, none⟩)) ∧ w'.cell? ⟨b1, 0, none⟩ = some (.int .i64 (who : Int)) ∧ w'.cell? ⟨b2, 0, none⟩ = some (.int .u64 (old : Int)) ∧ w'.cell? ⟨b3, 0, none⟩ = some (.int .u64 (ee : Int)) ∧ w'.cell? ⟨gx, 0, none⟩ = some (.pointer (some ⟨gm, 0, none⟩)))
      (((try go_split_ands); refine ⟨?_, ?_, ?_, ?_, ?_⟩ <;> first | assumption | (with_reducible exact drew_cell d0) | (with_reducible exact drew_cell d1) | (with_reducible exact drew_cell d2) | (with_reducible exact drew_cell d3) | (with_reducible exact drew_cell dc)))
      ((go_at_call 87; (with_reducible refine (SW.out W.drew (Ext.refl W).drew).mono ?_); rintro e w2 ⟨d, a, rfl, hg⟩; have HG : Hid (EpMid W C F gx gm n (L.length + 1) s' w2) := Lib.hid ⟨_, by simp, hg.back (Ext.refl W).drew⟩; obtain ⟨tc, g2⟩ := HG.out.keep; have t0 := g2.cell d0 n0; have t1 := g2.cell d1 n1; have t2 := g2.cell d2 n2; have t3 := g2.cell d3 n3; clear g2 hg))
    all_goals
      go_wp2_with fail
      go_meet
      exact HG.out
  case rest =>
    have HM := Lib.hid hcut
    obtain ⟨L', C', F', hl, hE, g2, fC, fF, fF'⟩ := hcut.out
    have KR2 := g2.blk KR.out (fun e => Nat.lt_irrefl _ (hlt.out _ (hsub.out _ e)))
    have z0 := blk_frozen KR2 0; have z1 := blk_frozen KR2 1; have z2 := blk_frozen KR2 2; have z3 := blk_frozen KR2 3
    have r0 := blk_cell KR2 0; have r1 := blk_cell KR2 1; have r2 := blk_cell KR2 2; have r3 := blk_cell KR2 3
    have K2 := Lib.hid KR2
    clear KR2 hcut d0 d1 d2 d3 dc
    go_wp2_with fail
    refine bodyPost_ret (results_tmp_row (p := 5) (u := 4) rfl _ _ w.heap.size _ #[.bool false, .int .i64 0, .int .i64 0, .slice none 0 0] (0, 0) _ rfl (row4 K2.out _ _ _ _) Try.underlying36 (by rfl) (by kernel_rfl)) rfl ?_
    obtain ⟨L9, hl9, hg9⟩ := HM.out
    refine ⟨L9, hl9, eclo_put xW (blk_lt KR.out) hlt.out hsub.out _ _ _ _ (eclo_of hg9 (Ext.refl _) (fun C9 F9 _ hC9 hF9 g9 => ?_) _ _ _)⟩
    exact ⟨_, _, _, rfl, box_old K0.out xW g9 hC9 hF9 (Ext.refl _) _, box_old K1.out xW g9 hC9 hF9 (Ext.refl _) _, box_old K3.out xW g9 hC9 hF9 (Ext.refl _) _⟩
theorem EpMid.upd {W w2 w3 : World} {C F C' F' : Nat → Prop} {gx gm n k : Nat} {s' : ESt} {L' : List AccE} (hl : L'.length = k) (g : GB W w2 C) (hC : ∀ i, C' i → C i ∨ W.heap.size ≤ i) (hF : ∀ i, F i → F' i) (hF1 : ∀ i, F' i → F i ∨ W.heap.size ≤ i) (h : EpGo w2 C' F' gx gm n L' s' w3) : EpMid W C F gx gm n k s' w3 :=
  ⟨L', hl, EpGo.trans g hC hF hF1 h⟩
theorem EpMid.ext {W w2 w3 : World} {C F : Nat → Prop} {gx gm n k : Nat} {s : ESt} (h : EpMid W C F gx gm n k s w2) (x : Ext w2 w3) : EpMid W C F gx gm n k s w3 := by
  obtain ⟨L', hl, g⟩ := h
  exact ⟨L', hl, g.ext x⟩
/-- the cells of a worker, ready for a store -/
theorem EpAt.pin_cells {w : World} {C F : Nat → Prop} {gx gm n who : Nat} {L : List AccE} {s : ESt} (h : EpAt w C F gx gm n L s) (hw : who < n) :
    ∃ gw v, w.cell? ⟨gx, 1, none⟩ = some (.slice (some ⟨gw, 0, none⟩) n n) ∧ w.cell? ⟨gw, who * 3 + 1, none⟩ = some v ∧ w.frozen? ⟨gw, who * 3 + 1, none⟩ = false ∧ C gw ∧ gx ≠ gw ∧ ∀ b, EpGo w C F gx gm n L (s.put who { s.wk who with pinned := b }) (w.setCell ⟨gw, who * 3 + 1, none⟩ (.bool b)) := by
  obtain ⟨gw, f, B, c, h1, h2, h3, h4, h5, h6, h7, h8, h9, h10, h11, h12, h13⟩ := h.wk hw
  exact ⟨gw, _, h1, h6, h8 _, h3, by omega, h13⟩
theorem pick_l {P : Program} {f : FuncId} {a : Array Value} {w : World} {c : Prop} {Q1 Q2 : Ending → World → Prop} (hc : c) (h : Calls P f a w Q1) : Calls P f a w fun e w' => (c → Q1 e w') ∧ (¬ c → Q2 e w') := h.mono fun _ _ h => ⟨fun _ => h, fun h' => absurd hc h'⟩
theorem pick_r {P : Program} {f : FuncId} {a : Array Value} {w : World} {c : Prop} {Q1 Q2 : Ending → World → Prop} (hc : ¬ c) (h : Calls P f a w Q2) : Calls P f a w fun e w' => (c → Q1 e w') ∧ (¬ c → Q2 e w') := h.mono fun _ _ h => ⟨fun h' => absurd h' hc, fun _ => h⟩
set_option maxHeartbeats 2000000 in
set_option maxRecDepth 100000 in
theorem epinL_any (w : World) (C F : Nat → Prop) (gx gm n who ee : Nat) (L : List AccE) (s : ESt) (p0 p1 p2 : Value) (h : EpAt w C F gx gm n L s) (hL : L.length ≤ 100000) (hw : who < n) (hn : n ≤ 64) (hee : ee ≤ 1000000) (_hse : s.ep ≤ 1000000)
    (k0 : BoxAt w C F p0 (.pointer (some ⟨gx, 0, none⟩))) (k1 : BoxAt w C F p1 (.int .i64 (who : Int))) (k2 : BoxAt w C F p2 (.int .u64 (ee : Int))) :
    Calls Try.prog 101 #[p0, p1, p2] w (fun e w' => (s.ep = ee → CloSt w C F gx gm n who (L.length + 1) (s.put who { s.wk who with pinned := true }) .idle true 0 ee [] e w') ∧ (s.ep ≠ ee → CloSt w C F gx gm n who (L.length + 1) s (.pinS (ee + 1) s.ep) false 0 0 [] e w')) := by
  have hmf := hmfC
  have K0 := Lib.hid k0; have K1 := Lib.hid k1; have K2 := Lib.hid k2
  obtain ⟨b0, rfl, c0, n0, f0⟩ := k0.cell
  obtain ⟨b1, rfl, c1, n1, f1⟩ := k1.cell
  obtain ⟨b2, rfl, c2, n2, f2⟩ := k2.cell
  obtain ⟨W, hW⟩ : ∃ W, w.alloc (.cells #[.bool false, .int .i64 0, .int .i64 0, .slice none 0 0] 36) = W := ⟨_, rfl⟩
  have xW : Ext w W := by rw [← hW]; exact (Ext.refl w).alloc _
  have KR := Lib.hid (show W.heap[w.heap.size]? = some (.cells #[.bool false, .int .i64 0, .int .i64 0, .slice none 0 0] 36 (0, 0)) by rw [← hW]; exact blk_new w _)
  have LD := Lib.hid (fun (u : World) (hx : Ext W u) => (h.ext (xW.trans hx)).word hL who (by omega))
  have hw2 : IntKind.u64.wrap ((ee : Int) + 1) = (ee : Int) + 1 := by rw [IntKind.wrap_u64]; omega
  have d0 := ext_cell xW c0; have d1 := ext_cell xW c1; have d2 := ext_cell xW c2; have dc := ext_cell xW (epi_cells h)
  have hlt := Lib.hid h.lt; have hsub := Lib.hid h.sub
  clear c0 c1 c2 h k0 k1 k2
  obtain ⟨ep, hep⟩ : ∃ ep, s.ep = ep := ⟨_, rfl⟩
  rw [hep] at LD ⊢
  have HEP := Lib.hid hep
  clear hep
  by_cases hq : ep = ee
  · subst hq
    refine pick_l rfl ?_
    go_enter Try.func101, Try.ntmps101
    go_upto_region 1 with fail
    (try rw [hW])
    clear hW
    go_cut [5] (fun v5 wd => v5 = .int .u64 (ep : Int) ∧ EpMid W C F gx gm n (L.length + 1) s wd)
    case first =>
      go_region_held3 (fun w' => w'.cell? ⟨b0, 0, none⟩ = some (.pointer (some ⟨gx, 0, none⟩)) ∧ w'.cell? ⟨b1, 0, none⟩ = some (.int .i64 (who : Int)) ∧ w'.cell? ⟨gx, 0, none⟩ = some (.pointer (some ⟨gm, 0, none⟩)))
        (((try go_split_ands); refine ⟨?_, ?_, ?_⟩ <;> first | assumption | (with_reducible exact drew_cell d0) | (with_reducible exact drew_cell d1) | (with_reducible exact drew_cell dc)))
        ((go_at_call 80; (with_reducible refine (LD.out W.drew (Ext.refl W).drew).mono ?_); rintro e w2 ⟨rfl, hg⟩; have HG : Hid (EpMid W C F gx gm n (L.length + 1) s w2) := Lib.hid ⟨_, by simp, hg.back (Ext.refl W).drew⟩; obtain ⟨tc, g2⟩ := HG.out.keep; have t0 := g2.cell d0 n0; have t1 := g2.cell d1 n1; have t2 := g2.cell d2 n2; clear g2 hg))
      all_goals
        go_wp2_with fail
        go_meet
        exact ⟨rfl, HG.out⟩
    case rest =>
      obtain ⟨rfl, hcut⟩ := hcut
      obtain ⟨L', C', F', hl, hE, g2, fC, fF, fF'⟩ := hcut.out
      have KR2 := Lib.hid (g2.blk KR.out (fun e => Nat.lt_irrefl _ (hlt.out _ (hsub.out _ e))))
      have e0 := g2.cell d0 n0; have e1 := g2.cell d1 n1; have e2 := g2.cell d2 n2
      obtain ⟨gw, vp, x1, xp, xf, hgw, hne, hup⟩ := hE.pin_cells hw
      have UP := Lib.hid (EpMid.upd hl g2 fC fF fF' (hup true))
      have m0 : b0 ≠ gw := fun e => (fC gw hgw).elim (fun h => n0 (e ▸ h)) (fun h => by have := World.block_lt_of_cell? W _ d0; have := (show b0 < W.heap.size from this); omega)
      have m2 : b2 ≠ gw := fun e => (fC gw hgw).elim (fun h => n2 (e ▸ h)) (fun h => by have := World.block_lt_of_cell? W _ d2; have := (show b2 < W.heap.size from this); omega)
      have mr : w.heap.size ≠ gw := fun e => (fC gw hgw).elim (fun h => Nat.lt_irrefl _ (hlt.out _ (hsub.out _ (e ▸ h)))) (fun h => by have := blk_lt KR.out; omega)
      have KR3 := Lib.hid (blk_grown KR2.out (grown_set wc gw (who * 3 + 1) (.bool true)) mr)
      clear d0 d1 d2 dc hcut hE g2 fC fF fF' hup hgw
      go_upto_region 4 with fail
      obtain ⟨V, hV⟩ : ∃ V, wc.setCell ⟨gw, who * 3 + 1, none⟩ (.bool true) = V := ⟨_, rfl⟩
      rw [hV] at UP KR3
      have e2' : V.cell? ⟨b2, 0, none⟩ = some (.int .u64 (ep : Int)) := by rw [← hV]; exact cell_other e2 m2
      go_region
      all_goals
        (try rw [hV])
        clear hV e2 e0 e1
        have e2'' := drew_cell e2'
        go_wp2_with fail
        refine (eend_any 0 ep _ (by omega)).mono ?_
        rintro e w3 ⟨rfl, x3⟩
        have KR4 := blk_ext KR3.out ((Ext.refl V).drew.trans x3)
        have r0 := blk_cell KR4 0; have r1 := blk_cell KR4 1; have r2 := blk_cell KR4 2; have r3 := blk_cell KR4 3
        have z0 := blk_frozen KR4 0; have z1 := blk_frozen KR4 1; have z2 := blk_frozen KR4 2; have z3 := blk_frozen KR4 3
        have K4 := Lib.hid KR4
        clear KR4
        go_wp2_with fail
        refine bodyPost_ret (results_tmp_row (p := 4) (u := 3) rfl _ _ w.heap.size _ #[.bool true, .int .i64 0, .int .i64 (ep : Int), .slice none 0 0] (0, 0) _ rfl (row4 K4.out _ _ _ _) Try.underlying36 (by rfl) (by kernel_rfl)) rfl ?_
        obtain ⟨L9, hl9, hg9⟩ := UP.out
        exact ⟨L9, hl9, eclo_put xW (blk_lt KR.out) hlt.out hsub.out _ _ _ _ (eclo_idle hg9 ((Ext.refl V).drew.trans x3) _ _)⟩
  · refine pick_r hq ?_
    have hd : ((ep : Int) != (ee : Int)) = true := by rw [bne_iff_ne]; omega
    clear hq
    go_enter Try.func101, Try.ntmps101
    go_upto_region 1 with fail
    (try rw [hW])
    clear hW
    go_cut [5] (fun v5 wd => v5 = .int .u64 (ep : Int) ∧ EpMid W C F gx gm n (L.length + 1) s wd)
    case first =>
      go_region_held3 (fun w' => w'.cell? ⟨b0, 0, none⟩ = some (.pointer (some ⟨gx, 0, none⟩)) ∧ w'.cell? ⟨b1, 0, none⟩ = some (.int .i64 (who : Int)) ∧ w'.cell? ⟨gx, 0, none⟩ = some (.pointer (some ⟨gm, 0, none⟩)))
        (((try go_split_ands); refine ⟨?_, ?_, ?_⟩ <;> first | assumption | (with_reducible exact drew_cell d0) | (with_reducible exact drew_cell d1) | (with_reducible exact drew_cell dc)))
        ((go_at_call 80; (with_reducible refine (LD.out W.drew (Ext.refl W).drew).mono ?_); rintro e w2 ⟨rfl, hg⟩; have HG : Hid (EpMid W C F gx gm n (L.length + 1) s w2) := Lib.hid ⟨_, by simp, hg.back (Ext.refl W).drew⟩; obtain ⟨tc, g2⟩ := HG.out.keep; have t0 := g2.cell d0 n0; have t1 := g2.cell d1 n1; have t2 := g2.cell d2 n2; clear g2 hg))
      all_goals
        go_wp2_with fail
        go_meet
        exact ⟨rfl, HG.out⟩
    case rest =>
      obtain ⟨rfl, hcut⟩ := hcut
      have HM := Lib.hid hcut
      obtain ⟨L', C', F', hl, hE, g2, fC, fF, fF'⟩ := hcut.out
      have KR2 := Lib.hid (g2.blk KR.out (fun e => Nat.lt_irrefl _ (hlt.out _ (hsub.out _ e))))
      have e0 := g2.cell d0 n0; have e1 := g2.cell d1 n1; have e2 := g2.cell d2 n2
      have PN : ∀ x : Int, x = ((ee + 1 : Nat) : Int) → Calls Try.prog 81 #[.pointer (some ⟨gx, 0, none⟩), .int .i64 (who : Int), .int .u64 x, .int .u64 (ep : Int)] wc (PendNew wc gx who (.pinS (ee + 1) ep)) := fun x hx => by subst hx; exact epin_any wc gx who (ee + 1) ep
      have HPN := Lib.hid PN
      clear d0 d1 d2 dc hcut hE g2 fC fF fF' PN
      go_wp2_with fail
      refine (HPN.out _ (by omega)).mono ?_
      rintro e w3 ⟨v, rfl, _, ⟨f9, c9, rfl⟩, x3, hp⟩
      have HP := Lib.hid hp
      have KR4 := blk_ext KR2.out x3
      have r0 := blk_cell KR4 0; have r1 := blk_cell KR4 1; have r2 := blk_cell KR4 2; have r3 := blk_cell KR4 3
      have z0 := blk_frozen KR4 0; have z1 := blk_frozen KR4 1; have z2 := blk_frozen KR4 2; have z3 := blk_frozen KR4 3
      have K4 := Lib.hid KR4
      clear KR4 hp
      go_wp2_with fail
      refine bodyPost_ret (results_tmp_row (p := 4) (u := 3) rfl _ _ w.heap.size _ #[.bool false, .int .i64 0, .int .i64 0, .slice none 0 0] (0, 0) _ rfl (row4 K4.out _ _ _ _) Try.underlying36 (by rfl) (by kernel_rfl)) rfl ?_
      obtain ⟨L9, hl9, hg9⟩ := HM.out
      exact ⟨L9, hl9, eclo_put xW (blk_lt KR.out) hlt.out hsub.out _ _ _ _ (eclo_of hg9 x3 (fun C9 F9 hC9 _ _ _ => HP.out C9 F9 hC9) _ _ _)⟩
end Go.Proofs.Ytlgggeeflomelaa
