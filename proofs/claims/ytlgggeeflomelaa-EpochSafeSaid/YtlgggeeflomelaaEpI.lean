/- epoch: the function of Retire (written by gen_eph.py). -/
import Derived.Test.YtlgggeeflomelaaEpH
namespace Go.Proofs.Ytlgggeeflomelaa
open Go.RowKit

set_option maxHeartbeats 1000000 in
set_option maxRecDepth 100000 in
theorem ebeg_ret (w : World) (C F : Nat → Prop) (gx gm n who : Nat) (thing : Int) (L : List AccE) (s : ESt) (p0 p1 p2 p3 : Value) (h : EpAt w C F gx gm n L s) (hL : L.length ≤ 100000) (hw : who < n) (hn : n ≤ 64)  (hse : s.ep ≤ 1000000) (hlen : (s.wk who).held.length ≤ 1000000)
    (k0 : BoxAt w C F p0 (.pointer (some ⟨gx, 0, none⟩))) (k1 : BoxAt w C F p1 (.int .i64 (who : Int))) (k2 : BoxAt w C F p2 (.int .u8 3)) (k3 : BoxAt w C F p3 (.int .i64 thing)) :
    Calls Try.prog 79 #[p0, p1, p2, p3] w (CloSt w C F gx gm n who (L.length + 1) (s.put who { s.wk who with held := (s.wk who).held ++ [(thing, s.ep)] }) .idle true 0 s.ep []) := by
  obtain ⟨b0, rfl, c0, n0, f0⟩ := k0.cell
  obtain ⟨b1, rfl, c1, n1, f1⟩ := k1.cell
  obtain ⟨b2, rfl, c2, n2, f2⟩ := k2.cell
  obtain ⟨b3, rfl, c3, n3, f3⟩ := k3.cell
  obtain ⟨W, hW⟩ : ∃ W, w.alloc (.cells #[.bool false, .int .i64 0, .int .i64 0, .slice none 0 0] 36) = W := ⟨_, rfl⟩
  have xW : Ext w W := by rw [← hW]; exact (Ext.refl w).alloc _
  have KR := Lib.hid (show W.heap[w.heap.size]? = some (.cells #[.bool false, .int .i64 0, .int .i64 0, .slice none 0 0] 36 (0, 0)) by rw [← hW]; exact blk_new w _)
  have LD := Lib.hid (fun (u : World) (hx : Ext W u) => (h.ext (xW.trans hx)).word hL who (by omega))
  have d0 := ext_cell xW c0; have d1 := ext_cell xW c1; have d2 := ext_cell xW c2; have d3 := ext_cell xW c3; have dc := ext_cell xW (epi_cells h)
  have HLT := Lib.hid h.lt; have hsub := Lib.hid h.sub
  clear c0 c1 c2 c3 h k0 k1 k2 k3
  obtain ⟨ep, hep⟩ : ∃ ep, s.ep = ep := ⟨_, rfl⟩
  rw [hep] at LD ⊢
  have HEP := Lib.hid hep
  clear hep
  go_enter Try.func79, Try.ntmps79
  go_upto_region 1 with fail
  (try rw [hW])
  clear hW
  go_cut [6] (fun v6 wd => v6 = .int .u64 (ep : Int) ∧ EpMid W C F gx gm n (L.length + 1) s wd)
  case first =>
    go_region_held3 (fun w' => w'.cell? ⟨b0, 0, none⟩ = some (.pointer (some ⟨gx, 0, none⟩)) ∧ w'.cell? ⟨b1, 0, none⟩ = some (.int .i64 (who : Int)) ∧ w'.cell? ⟨gx, 0, none⟩ = some (.pointer (some ⟨gm, 0, none⟩)))
      (((try go_split_ands); refine ⟨?_, ?_, ?_⟩ <;> first | assumption | (with_reducible exact drew_cell d0) | (with_reducible exact drew_cell d1) | (with_reducible exact drew_cell dc)))
      ((go_at_call 80; (with_reducible refine (LD.out W.drew (Ext.refl W).drew).mono ?_); rintro e w2 ⟨rfl, hg⟩; have HG : Hid (EpMid W C F gx gm n (L.length + 1) s w2) := Lib.hid ⟨_, by simp, hg.back (Ext.refl W).drew⟩; obtain ⟨tc, g2⟩ := HG.out.keep; have t0 := g2.cell d0 n0; have t1 := g2.cell d1 n1; clear g2 hg))
    all_goals
      go_wp2_with fail
      go_meet
      exact ⟨rfl, HG.out⟩
  case rest =>
    obtain ⟨rfl, hcut⟩ := hcut
    have HM := Lib.hid hcut
    obtain ⟨L', C', F', hl, hE, g2, fC, fF, fF'⟩ := hcut.out
    have KR2 := Lib.hid (g2.blk KR.out (fun e => Nat.lt_irrefl _ (HLT.out _ (hsub.out _ e))))
    have e0 := g2.cell d0 n0; have e1 := g2.cell d1 n1; have e2 := g2.cell d2 n2; have e3 := g2.cell d3 n3
    have hse' : ep ≤ 1000000 := HEP.out ▸ hse
    obtain ⟨gw, f, B0, c, x1, hCx, hCw, hxw1, _, _, xh, xfr, _, ho, hoC, _⟩ := hE.wk hw
    have hxw : gx ≠ gw := by omega
    have xf := xfr (who * 3 + 2)
    have PUT := Lib.hid (fun (w3 : World) (B' : Option Addr) (c' : Nat) (l' : List (Int × Nat)) g ho hq => hE.put_held (w3 := w3) (B' := B') (c' := c') (l' := l') hw x1 xh g ho hq)
    have OX := hE.own_x hw x1 xh
    obtain ⟨xs, hxs⟩ : ∃ xs, (s.wk who).held = xs := ⟨_, rfl⟩
    rw [hxs] at xh ho hlen hoC OX
    rw [hxs] at PUT
    have HXS := Lib.hid hxs
    obtain ⟨m, hm⟩ : ∃ m, xs.length = m := ⟨_, rfl⟩
    have Hm := Lib.hid hm
    rw [hm] at xh ho hlen hoC PUT OX
    have HO := Lib.hid ho
    have hgwc : gw < wc.heap.size := World.block_lt_of_cell? wc _ xh
    have hgxc : gx < wc.heap.size := World.block_lt_of_cell? wc _ x1
    have hgw1 : gw + 1 ≤ wc.heap.size := hgwc
    have hnC : ∀ b : Nat, (¬ C b ∧ b < W.heap.size) → ¬ C' b := fun b hb e => (fC b e).elim hb.1 (fun e => by omega)
    have m0 := hnC b0 ⟨n0, World.block_lt_of_cell? W _ d0⟩; have m1 := hnC b1 ⟨n1, World.block_lt_of_cell? W _ d1⟩; have m3 := hnC b3 ⟨n3, World.block_lt_of_cell? W _ d3⟩
    have mr := hnC w.heap.size ⟨fun e => Nat.lt_irrefl _ (HLT.out _ (hsub.out _ e)), blk_lt KR.out⟩
    have q0 : ¬ (Value.slice B0 m c).ownBlock = some b0 := fun e => m0 (hoC _ e)
    have q1 : ¬ (Value.slice B0 m c).ownBlock = some b1 := fun e => m1 (hoC _ e)
    have q3 : ¬ (Value.slice B0 m c).ownBlock = some b3 := fun e => m3 (hoC _ e)
    have qr : ¬ (Value.slice B0 m c).ownBlock = some w.heap.size := fun e => mr (hoC _ e)
    have qw : ¬ (Value.slice B0 m c).ownBlock = some gw := fun e => by have := (HO.out.lt _ e).1; omega
    have qx : ¬ (Value.slice B0 m c).ownBlock = some gx := fun e => OX gx e rfl
    have hrw : w.heap.size ≠ gw := fun e => mr (e ▸ hCw)
    have z0 : b0 ≠ gw := fun e => m0 (e ▸ hCw)
    have z1 : b1 ≠ gw := fun e => m1 (e ▸ hCw)
    have z3 : b3 ≠ gw := fun e => m3 (e ▸ hCw)
    have GG := Lib.hid g2; have GC := Lib.hid fC; have GF := Lib.hid fF; have GF' := Lib.hid fF'; have HL := Lib.hid hl
    have hm9 : m ≤ 1000000000 := by omega
    clear d0 d1 d2 d3 dc hcut hE g2 fC fF fF' ho hxs hm xfr hnC hoC OX hl hxw1
    go_upto_region 6 with fail
    have e0' := cell_past e0 (.cells #[.int .i64 thing, .int .u64 (ep : Int)] 127)
    have e1' := cell_past e1 (.cells #[.int .i64 thing, .int .u64 (ep : Int)] 127)
    have e3' := cell_past e3 (.cells #[.int .i64 thing, .int .u64 (ep : Int)] 127)
    have x1' := cell_past x1 (.cells #[.int .i64 thing, .int .u64 (ep : Int)] 127)
    have xh' := cell_past xh (.cells #[.int .i64 thing, .int .u64 (ep : Int)] 127)
    go_cut [] (fun wd => EpMid W C F gx gm n (L.length + 1) (s.put who { s.wk who with held := xs ++ [(thing, ep)] }) wd ∧ wd.heap[w.heap.size]? = some (.cells #[.bool false, .int .i64 0, .int .i64 0, .slice none 0 0] 36 (0, 0)))
    case first =>
      refine wp_region_held_drew (S := fun w' => w'.cell? ⟨b0, 0, none⟩ = some (.pointer (some ⟨gx, 0, none⟩)) ∧ w'.cell? ⟨b1, 0, none⟩ = some (.int .i64 (who : Int)) ∧ w'.cell? ⟨b3, 0, none⟩ = some (.int .i64 thing) ∧ w'.cell? ⟨gx, 1, none⟩ = some (.slice (some ⟨gw, 0, none⟩) n n)) (by kernel_rfl) ⟨drew_cell e0, drew_cell e1, drew_cell e3, drew_cell x1⟩ (fun hHeld => ?_)
      refine wpAnyH_take (i := 0) (oi := _) (v := ?_) rfl (by kernel_rfl) (by kernel_rfl) (by kernel_rfl) (fun _ _ _ h => h) (Or.inl ⟨by rfl, ?_⟩) (by assumption) ?_
      rotate_left
      · intro w hSw; (try dsimp only at hSw); go_simp
        (try with_reducible rfl)
      (try simp only [Act.put])
      refine wpAnyH_take (i := 1) (oi := _) (v := ?_) rfl (by kernel_rfl) (by kernel_rfl) (by kernel_rfl) (fun _ _ _ h => h) (Or.inl ⟨by rfl, ?_⟩) (by assumption) ?_
      rotate_left
      · intro w hSw; (try dsimp only at hSw); go_simp
        (try with_reducible rfl)
      (try simp only [Act.put])
      refine wpAnyH_take (i := 2) (oi := _) (v := ?_) rfl (by kernel_rfl) (by kernel_rfl) (by kernel_rfl) (fun _ _ _ h => h) (Or.inl ⟨by rfl, ?_⟩) (by assumption) ?_
      rotate_left
      · intro w hSw; (try dsimp only at hSw); go_simp
        (try with_reducible rfl)
      (try simp only [Act.put])
      refine wpAnyH_take (i := 3) (oi := _) (v := ?_) rfl (by kernel_rfl) (by kernel_rfl) (by kernel_rfl) (fun _ _ _ h => h) (Or.inl ⟨by rfl, ?_⟩) (by assumption) ?_
      rotate_left
      · intro w hSw; (try dsimp only at hSw); go_simp
        (try with_reducible rfl)
      (try simp only [Act.put])
      refine wpAnyH_take (i := 4) (oi := _) (v := ?_) rfl (by kernel_rfl) (by kernel_rfl) (by kernel_rfl) (fun _ _ _ h => h) (Or.inl ⟨by rfl, ?_⟩) (by assumption) ?_
      rotate_left
      · intro w hSw; (try dsimp only at hSw); go_simp
        (try with_reducible rfl)
      (try simp only [Act.put])
      refine wpAnyH_take (i := 5) (oi := _) (v := ?_) rfl (by kernel_rfl) (by kernel_rfl) (by kernel_rfl) (fun _ _ _ h => h) (Or.inl ⟨by rfl, ?_⟩) (by assumption) ?_
      rotate_left
      · intro w hSw; (try dsimp only at hSw); go_simp
        (try with_reducible rfl)
      (try simp only [Act.put])
      refine wpAnyH_take (i := 6) (oi := _) (v := ?_) rfl (by kernel_rfl) (by kernel_rfl) (by kernel_rfl) (fun _ _ _ h => h) (Or.inl ⟨by rfl, ?_⟩) (by assumption) ?_
      rotate_left
      · intro w hSw; (try dsimp only at hSw); go_simp
        (try with_reducible rfl)
      (try simp only [Act.put])
      refine wpAnyH_take (i := 7) (oi := _) (v := ?_) rfl (by kernel_rfl) (by kernel_rfl) (by kernel_rfl) (fun _ _ _ h => h) (Or.inl ⟨by rfl, ?_⟩) (by assumption) ?_
      rotate_left
      · intro w hSw; (try dsimp only at hSw); go_simp
        (try with_reducible rfl)
      (try simp only [Act.put])
      refine wpAnyH_take (i := 8) (oi := _) (v := ?_) rfl (by kernel_rfl) (by kernel_rfl) (by kernel_rfl) (fun _ _ _ h => h) (Or.inl ⟨by rfl, ?_⟩) (by assumption) ?_
      rotate_left
      · intro w hSw; (try dsimp only at hSw); go_simp
        (try with_reducible rfl)
      (try simp only [Act.put])
      refine wpAnyH_take (i := 9) (oi := _) (v := ?_) rfl (by kernel_rfl) (by kernel_rfl) (by kernel_rfl) (fun _ _ _ h => h) (Or.inl ⟨by rfl, ?_⟩) (by assumption) ?_
      rotate_left
      · intro w hSw; (try dsimp only at hSw); go_simp
        (try with_reducible rfl)
      (try simp only [Act.put])
      refine wpAnyH_take (i := 10) (oi := _) (v := ?_) rfl (by kernel_rfl) (by kernel_rfl) (by kernel_rfl) (fun _ _ _ h => h) (Or.inl ⟨by rfl, ?_⟩) (by assumption) ?_
      rotate_left
      · intro w hSw; (try dsimp only at hSw); go_simp
        (try with_reducible rfl)
      (try simp only [Act.put])
      refine wpAnyH_take (i := 11) (oi := _) (v := ?_) rfl (by kernel_rfl) (by kernel_rfl) (by kernel_rfl) (fun _ _ _ h => h) (Or.inl ⟨by rfl, ?_⟩) (by assumption) ?_
      rotate_left
      · intro w hSw; (try dsimp only at hSw); go_simp
        (try with_reducible rfl)
      (try simp only [Act.put])
      refine wpAnyH_take (i := 13) (oi := _) (v := ?_) rfl (by kernel_rfl) (by kernel_rfl) (by kernel_rfl) (fun _ _ _ h => h) (Or.inl ⟨by rfl, ?_⟩) (by assumption) ?_
      rotate_left
      · intro w hSw; (try dsimp only at hSw); go_simp
        (try with_reducible rfl)
      (try simp only [Act.put])
      refine wpAnyH_take (i := 14) (oi := _) (v := ?_) rfl (by kernel_rfl) (by kernel_rfl) (by kernel_rfl) (fun _ _ _ h => h) (Or.inl ⟨by rfl, ?_⟩) (by assumption) ?_
      rotate_left
      · intro w hSw; (try dsimp only at hSw); go_simp
        (try with_reducible rfl)
      (try simp only [Act.put])
      refine wpAnyH_take (i := 15) (oi := _) (v := ?_) rfl (by kernel_rfl) (by kernel_rfl) (by kernel_rfl) (fun _ _ _ h => h) (Or.inl ⟨by rfl, ?_⟩) (by assumption) ?_
      rotate_left
      · intro w hSw; (try dsimp only at hSw); go_simp
        (try with_reducible rfl)
      (try simp only [Act.put])
      refine wpAnyH_ready (rs := [12, 16]) (by kernel_rfl) (by simp) (AllReadyH.cons (o := _) rfl (fun K hK => ?_) (AllReadyH.cons (o := _) rfl (fun K hK => ?_) AllReadyH.nil))
      · go_simp
        refine hK.out _ _ (by ((try dsimp only); refine ⟨?_, ?_, ?_, ?_⟩ <;> first | (with_reducible exact drew_cell e0) | (with_reducible exact drew_cell e1) | (with_reducible exact drew_cell e3) | (with_reducible exact drew_cell x1) | (with_reducible exact drew_cell e0') | (with_reducible exact drew_cell e1') | (with_reducible exact drew_cell e3') | (with_reducible exact drew_cell x1') | (with_reducible exact s0) | (with_reducible exact s1) | (with_reducible exact s3) | (with_reducible exact sx) | (with_reducible exact cell_other s0 z0) | (with_reducible exact cell_other s1 z1) | (with_reducible exact cell_other s3 z3) | (with_reducible exact cell_other sx hxw))) (fun hHeld => ?_)
        clear hK K
        (try simp only [Act.put])
        refine wpAnyH_ready (rs := [16]) (by kernel_rfl) (by simp) (AllReadyH.cons (o := _) rfl (fun K hK => ?_) AllReadyH.nil)
        go_simp
        refine hK.out _ _ (by ((try dsimp only); refine ⟨?_, ?_, ?_, ?_⟩ <;> first | (with_reducible exact drew_cell e0) | (with_reducible exact drew_cell e1) | (with_reducible exact drew_cell e3) | (with_reducible exact drew_cell x1) | (with_reducible exact drew_cell e0') | (with_reducible exact drew_cell e1') | (with_reducible exact drew_cell e3') | (with_reducible exact drew_cell x1') | (with_reducible exact s0) | (with_reducible exact s1) | (with_reducible exact s3) | (with_reducible exact sx) | (with_reducible exact cell_other s0 z0) | (with_reducible exact cell_other s1 z1) | (with_reducible exact cell_other s3 z3) | (with_reducible exact cell_other sx hxw))) (fun hHeld => ?_)
        clear hK K
        (try simp only [Act.put])
        refine wpAnyH_ready (rs := [17]) (by kernel_rfl) (by simp) (AllReadyH.cons (o := _) rfl (fun K hK => ?_) AllReadyH.nil)
        refine step_app_thing (wc.alloc (.cells #[.int .i64 thing, .int .u64 (ep : Int)] 127)).drew rfl (.tmp 39) (.tmp 43) rfl (gw + 1) (by rfl) (own_ext HO.out ((Ext.refl wc).alloc _).drew) (thing, ep) (by rfl) (show Rd _ _ _ from rd_newk wc (tcells (thing, ep)) _ rfl) hm9 (Nat.le_trans hgw1 ((Ext.refl wc).alloc _).drew.size) ?_; intro B' cb' w6 o6 g6 b6; have GW : GB wc w6 (fun i => (Value.slice B0 m c).ownBlock = some i) := ((GB.refl wc _).alloc _).drew.grown g6 (fun q e => .inl e); have s0 := GW.cell e0 q0; have s1 := GW.cell e1 q1; have s3 := GW.cell e3 q3; have sx := GW.cell x1 qx; have sh := GW.cell xh qw; have sf : w6.frozen? ⟨gw, who * 3 + 2, none⟩ = false := (frozen_gb GW hgwc qw).trans xf; have K6 := Lib.hid (GW.blk KR2.out qr)
        refine hK.out _ _ (by ((try dsimp only); refine ⟨?_, ?_, ?_, ?_⟩ <;> first | (with_reducible exact drew_cell e0) | (with_reducible exact drew_cell e1) | (with_reducible exact drew_cell e3) | (with_reducible exact drew_cell x1) | (with_reducible exact drew_cell e0') | (with_reducible exact drew_cell e1') | (with_reducible exact drew_cell e3') | (with_reducible exact drew_cell x1') | (with_reducible exact s0) | (with_reducible exact s1) | (with_reducible exact s3) | (with_reducible exact sx) | (with_reducible exact cell_other s0 z0) | (with_reducible exact cell_other s1 z1) | (with_reducible exact cell_other s3 z3) | (with_reducible exact cell_other sx hxw))) (fun hHeld => ?_)
        clear hK K
        (try simp only [Act.put])
        refine wpAnyH_take (i := 18) (oi := _) (v := ?_) rfl (by kernel_rfl) (by kernel_rfl) (by kernel_rfl) (fun _ _ _ h => h) (Or.inl ⟨by rfl, ?_⟩) (by assumption) ?_
        rotate_left
        · intro w hSw; (try dsimp only at hSw); go_simp
          (try with_reducible rfl)
        (try simp only [Act.put])
        refine wpAnyH_take (i := 19) (oi := _) (v := ?_) rfl (by kernel_rfl) (by kernel_rfl) (by kernel_rfl) (fun _ _ _ h => h) (Or.inl ⟨by rfl, ?_⟩) (by assumption) ?_
        rotate_left
        · intro w hSw; (try dsimp only at hSw); go_simp
          (try with_reducible rfl)
        (try simp only [Act.put])
        refine wpAnyH_ready (rs := [20]) (by kernel_rfl) (by simp) (AllReadyH.cons (o := _) rfl (fun K hK => ?_) AllReadyH.nil)
        go_simp
        refine hK.out _ _ (by ((try dsimp only); refine ⟨?_, ?_, ?_, ?_⟩ <;> first | (with_reducible exact drew_cell e0) | (with_reducible exact drew_cell e1) | (with_reducible exact drew_cell e3) | (with_reducible exact drew_cell x1) | (with_reducible exact drew_cell e0') | (with_reducible exact drew_cell e1') | (with_reducible exact drew_cell e3') | (with_reducible exact drew_cell x1') | (with_reducible exact s0) | (with_reducible exact s1) | (with_reducible exact s3) | (with_reducible exact sx) | (with_reducible exact cell_other s0 z0) | (with_reducible exact cell_other s1 z1) | (with_reducible exact cell_other s3 z3) | (with_reducible exact cell_other sx hxw))) (fun hHeld => ?_)
        clear hK K
        (try simp only [Act.put])
        refine wpAnyH_done (by kernel_rfl) ?_ _
        go_wp2_with fail
        go_meet
        have hlx : (xs ++ [(thing, ep)]).length = m + 1 := by rw [List.length_append, Hm.out]; rfl
        refine ⟨?_, blk_grown K6.out (grown_set w6 gw (who * 3 + 2) _) hrw⟩
        refine ⟨L', HL.out, EpGo.trans GG.out GC.out GF.out GF'.out ?_⟩
        have PU := PUT.out w6 B' cb' (xs ++ [(thing, ep)])
        rw [hlx] at PU
        exact PU GW o6 (fun q hq => by
          rw [hq] at b6
          rcases b6 with b6 | b6
          · exact .inl b6.symm
          · injection b6 with b6
            refine .inr ?_
            rw [b6]
            exact ((Ext.refl wc).alloc _).drew.size)
      · go_simp
        refine hK.out _ _ (by ((try dsimp only); refine ⟨?_, ?_, ?_, ?_⟩ <;> first | (with_reducible exact drew_cell e0) | (with_reducible exact drew_cell e1) | (with_reducible exact drew_cell e3) | (with_reducible exact drew_cell x1) | (with_reducible exact drew_cell e0') | (with_reducible exact drew_cell e1') | (with_reducible exact drew_cell e3') | (with_reducible exact drew_cell x1') | (with_reducible exact s0) | (with_reducible exact s1) | (with_reducible exact s3) | (with_reducible exact sx) | (with_reducible exact cell_other s0 z0) | (with_reducible exact cell_other s1 z1) | (with_reducible exact cell_other s3 z3) | (with_reducible exact cell_other sx hxw))) (fun hHeld => ?_)
        clear hK K
        (try simp only [Act.put])
        refine wpAnyH_ready (rs := [12]) (by kernel_rfl) (by simp) (AllReadyH.cons (o := _) rfl (fun K hK => ?_) AllReadyH.nil)
        go_simp
        refine hK.out _ _ (by ((try dsimp only); refine ⟨?_, ?_, ?_, ?_⟩ <;> first | (with_reducible exact drew_cell e0) | (with_reducible exact drew_cell e1) | (with_reducible exact drew_cell e3) | (with_reducible exact drew_cell x1) | (with_reducible exact drew_cell e0') | (with_reducible exact drew_cell e1') | (with_reducible exact drew_cell e3') | (with_reducible exact drew_cell x1') | (with_reducible exact s0) | (with_reducible exact s1) | (with_reducible exact s3) | (with_reducible exact sx) | (with_reducible exact cell_other s0 z0) | (with_reducible exact cell_other s1 z1) | (with_reducible exact cell_other s3 z3) | (with_reducible exact cell_other sx hxw))) (fun hHeld => ?_)
        clear hK K
        (try simp only [Act.put])
        refine wpAnyH_ready (rs := [17]) (by kernel_rfl) (by simp) (AllReadyH.cons (o := _) rfl (fun K hK => ?_) AllReadyH.nil)
        refine step_app_thing (wc.alloc (.cells #[.int .i64 thing, .int .u64 (ep : Int)] 127)).drew rfl (.tmp 39) (.tmp 43) rfl (gw + 1) (by rfl) (own_ext HO.out ((Ext.refl wc).alloc _).drew) (thing, ep) (by rfl) (show Rd _ _ _ from rd_newk wc (tcells (thing, ep)) _ rfl) hm9 (Nat.le_trans hgw1 ((Ext.refl wc).alloc _).drew.size) ?_; intro B' cb' w6 o6 g6 b6; have GW : GB wc w6 (fun i => (Value.slice B0 m c).ownBlock = some i) := ((GB.refl wc _).alloc _).drew.grown g6 (fun q e => .inl e); have s0 := GW.cell e0 q0; have s1 := GW.cell e1 q1; have s3 := GW.cell e3 q3; have sx := GW.cell x1 qx; have sh := GW.cell xh qw; have sf : w6.frozen? ⟨gw, who * 3 + 2, none⟩ = false := (frozen_gb GW hgwc qw).trans xf; have K6 := Lib.hid (GW.blk KR2.out qr)
        refine hK.out _ _ (by ((try dsimp only); refine ⟨?_, ?_, ?_, ?_⟩ <;> first | (with_reducible exact drew_cell e0) | (with_reducible exact drew_cell e1) | (with_reducible exact drew_cell e3) | (with_reducible exact drew_cell x1) | (with_reducible exact drew_cell e0') | (with_reducible exact drew_cell e1') | (with_reducible exact drew_cell e3') | (with_reducible exact drew_cell x1') | (with_reducible exact s0) | (with_reducible exact s1) | (with_reducible exact s3) | (with_reducible exact sx) | (with_reducible exact cell_other s0 z0) | (with_reducible exact cell_other s1 z1) | (with_reducible exact cell_other s3 z3) | (with_reducible exact cell_other sx hxw))) (fun hHeld => ?_)
        clear hK K
        (try simp only [Act.put])
        refine wpAnyH_take (i := 18) (oi := _) (v := ?_) rfl (by kernel_rfl) (by kernel_rfl) (by kernel_rfl) (fun _ _ _ h => h) (Or.inl ⟨by rfl, ?_⟩) (by assumption) ?_
        rotate_left
        · intro w hSw; (try dsimp only at hSw); go_simp
          (try with_reducible rfl)
        (try simp only [Act.put])
        refine wpAnyH_take (i := 19) (oi := _) (v := ?_) rfl (by kernel_rfl) (by kernel_rfl) (by kernel_rfl) (fun _ _ _ h => h) (Or.inl ⟨by rfl, ?_⟩) (by assumption) ?_
        rotate_left
        · intro w hSw; (try dsimp only at hSw); go_simp
          (try with_reducible rfl)
        (try simp only [Act.put])
        refine wpAnyH_ready (rs := [20]) (by kernel_rfl) (by simp) (AllReadyH.cons (o := _) rfl (fun K hK => ?_) AllReadyH.nil)
        go_simp
        refine hK.out _ _ (by ((try dsimp only); refine ⟨?_, ?_, ?_, ?_⟩ <;> first | (with_reducible exact drew_cell e0) | (with_reducible exact drew_cell e1) | (with_reducible exact drew_cell e3) | (with_reducible exact drew_cell x1) | (with_reducible exact drew_cell e0') | (with_reducible exact drew_cell e1') | (with_reducible exact drew_cell e3') | (with_reducible exact drew_cell x1') | (with_reducible exact s0) | (with_reducible exact s1) | (with_reducible exact s3) | (with_reducible exact sx) | (with_reducible exact cell_other s0 z0) | (with_reducible exact cell_other s1 z1) | (with_reducible exact cell_other s3 z3) | (with_reducible exact cell_other sx hxw))) (fun hHeld => ?_)
        clear hK K
        (try simp only [Act.put])
        refine wpAnyH_done (by kernel_rfl) ?_ _
        go_wp2_with fail
        go_meet
        have hlx : (xs ++ [(thing, ep)]).length = m + 1 := by rw [List.length_append, Hm.out]; rfl
        refine ⟨?_, blk_grown K6.out (grown_set w6 gw (who * 3 + 2) _) hrw⟩
        refine ⟨L', HL.out, EpGo.trans GG.out GC.out GF.out GF'.out ?_⟩
        have PU := PUT.out w6 B' cb' (xs ++ [(thing, ep)])
        rw [hlx] at PU
        exact PU GW o6 (fun q hq => by
          rw [hq] at b6
          rcases b6 with b6 | b6
          · exact .inl b6.symm
          · injection b6 with b6
            refine .inr ?_
            rw [b6]
            exact ((Ext.refl wc).alloc _).drew.size)
    case rest =>
      obtain ⟨hmid, kr⟩ := hcut
      have HMD := Lib.hid hmid
      clear hmid e0 e1 e2 e3 e0' e1' e3' x1 x1' xh xh' xf
      have EN := Lib.hid (eend_any 0 ep wc (by omega))
      have KR3 := Lib.hid kr
      clear kr
      go_wp2_with fail
      refine EN.out.mono ?_
      rintro e w3 ⟨rfl, x3⟩
      have KR4 := blk_ext KR3.out x3
      have r0 := blk_cell KR4 0; have r1 := blk_cell KR4 1; have r2 := blk_cell KR4 2; have r3 := blk_cell KR4 3
      have z0 := blk_frozen KR4 0; have z1 := blk_frozen KR4 1; have z2 := blk_frozen KR4 2; have z3 := blk_frozen KR4 3
      have K4 := Lib.hid KR4
      clear KR4
      go_wp2_with fail
      refine bodyPost_ret (results_tmp_row (p := 5) (u := 4) rfl _ _ w.heap.size _ #[.bool true, .int .i64 0, .int .i64 (ep : Int), .slice none 0 0] (0, 0) _ rfl (row4 K4.out _ _ _ _) Try.underlying36 (by rfl) (by kernel_rfl)) rfl ?_
      obtain ⟨L9, hl9, hg9⟩ := HMD.out
      have hfin := eclo_put xW (blk_lt KR.out) HLT.out hsub.out (.bool true) (.int .i64 0) (.int .i64 (ep : Int)) (.slice none 0 0) (eclo_idle (who := who) hg9 x3 0 (ep : Int))
      rw [← HXS.out, ← HEP.out] at hfin
      refine ⟨L9, hl9, ?_⟩
      rw [← HEP.out]
      exact hfin
end Go.Proofs.Ytlgggeeflomelaa
