/- spigotlaw12: a step of a counter that is played. -/
import Derived.Test.YtfjgpeffhbfihaaHldA
import Derived.Deep.DeepCutAuto
import Derived.Deep.QuietTactic
import Derived.Deep.LoopGhost
import Derived.BigRegion
namespace Go.Proofs.Ytfjgpeffhbfihaa
open Go.RowKit

set_option maxHeartbeats 2000000 in
set_option maxRecDepth 100000 in
theorem hstep_idle (w0 w : World) (gp gc lim val a who : Nat) (S : Nat → CallS) (h : HoldsAt w0 gp gc lim val a S w) (hw : who < 64) (hs : S who = .idle) :
    Calls Try.prog 36 #[.pointer (some ⟨gp, 0, none⟩), .int .i64 (who : Int)] w fun e w' => e = .returned (.bool true) ∧ HoldsAt w0 gp gc lim val a S w' := by
  have H := Lib.hid h
  obtain ⟨F, ups, downs, O, Sc, Sw, h1, h2, _⟩ := h
  obtain ⟨p0, p1, p2, p3, _, _⟩ := h2.cells
  have PF := Lib.hid (cin_pend w0 w F gc lim val a who S h1 hw false (.inr ⟨rfl, hs⟩))
  have CV := Lib.hid (cin_value w0 w F gc lim val a S h1)
  have CI := Lib.hid (cin_idle w0 w F gc lim val a who S h1 hw hs)
  clear h1 h2 hs
  go_enter Try.func36, Try.ntmps36
  go_wp2_with fail
  refine PF.out.mono ?_
  rintro e w1 ⟨rfl, rfl⟩
  go_wp2_with fail
  refine CV.out.mono ?_
  rintro e w1 ⟨rfl, rfl⟩
  go_wp2_with fail
  refine CI.out.mono ?_
  rintro e w1 ⟨rfl, _, x1⟩
  go_wp2_with fail
  go_ret
  exact ⟨rfl, H.out.ext (x1.alloc _)⟩
theorem next_done {val : Nat} {s : CallS} (hd : stDone val s = true) : stNext val s = .idle := by
  cases s with
  | idle => rfl
  | read => rfl
  | load stop e b => exact if_pos (by simpa [stDone] using hd)
  | swap n stop e b => exact if_pos (by simpa [stDone] using hd)
theorem holds_fin {w0 w : World} {F : Nat → Prop} {gp gc lim val val' a who ups downs : Nat} {S : Nat → CallS} {O Sc Sw Sc' Sw' : Nat → Nat}
    (h1 : CntIn w0 F gc lim val' (a + 1) (updS S who (stNext val (S who))) w) (h2 : PlAt w gp gc lim ups downs O Sc' Sw') (h3 : ¬ F gp) (h4 : w0.heap.size ≤ gp) (h5 : ups = downs + val') (h6 : ups ≤ a + 1)
    (h7 : ∀ i, i < 64 → Sc i ≤ a ∧ Sw i ≤ a) (h8 : ∀ i, i < 64 → OpOk lim (O i) (S i) ∧ HPar val (Sc i) (Sw i) (S i)) (hv : val ≤ lim) (hw : who < 64)
    (hs : ∀ i, i < 64 → i ≠ who → Sc' i = Sc i ∧ (val' = val → Sw' i = Sw i) ∧ (val' ≠ val → Sw' i = Sw i + 1)) (hwho : Sc' who ≤ a + 1 ∧ Sw' who ≤ a + 1 ∧ HPar val' (Sc' who) (Sw' who) (stNext val (S who))) :
    HoldsAt w0 gp gc lim val' (a + 1) (updS S who (stNext val (S who))) w := by
  refine ⟨F, ups, downs, O, Sc', Sw', h1, h2, h3, h4, h5, h6, fun i hi => ?_, fun i hi => ?_⟩
  · by_cases e : i = who
    · subst e; exact ⟨hwho.1, hwho.2.1⟩
    · obtain ⟨e1, e2, e3⟩ := hs i hi e
      have h := h7 i hi
      by_cases hvv : val' = val
      · rw [e1, e2 hvv]; omega
      · rw [e1, e3 hvv]; omega
  · by_cases e : i = who
    · subst e; rw [updS_self]; exact ⟨opok_next (h8 i hi).1 hv, hwho.2.2⟩
    · rw [updS_other S _ e]
      obtain ⟨e1, e2, e3⟩ := hs i hi e
      refine ⟨(h8 i hi).1, ?_⟩
      by_cases hvv : val' = val
      · rw [e1, e2 hvv, hvv]; exact (h8 i hi).2
      · rw [e1, e3 hvv]; exact hpar_new (h8 i hi).2
theorem busy_case {val sc sw : Nat} {s : CallS} (hs : s ≠ .idle) (hd : stDone val s = false) (h : HPar val sc sw s) : (sc % 2 = 0 ∧ HPar val (sc + 1) 0 (stNext val s)) ∨ (sc % 2 = 1 ∧ sw ≠ 0 ∧ HPar val (sc + 1) sw (stNext val s)) := by
  cases s with
  | idle => exact absurd rfl hs
  | read => cases hd
  | load stop e b =>
    have he : val ≠ stop := by simpa [stDone] using hd
    have e1 : stNext val (.load stop e b) = .swap val stop e b := if_neg he
    have h2 : sc % 2 = 0 := h
    rw [e1]
    exact .inl ⟨h2, by omega, fun _ => rfl⟩
  | swap n stop e b =>
    have he : val ≠ n := by simpa [stDone] using hd
    have e1 : stNext val (.swap n stop e b) = .load stop e b := if_neg he
    have h2 : sc % 2 = 1 := h.1
    rw [e1]
    exact .inr ⟨h2, fun e => he (h.2 e), show (sc + 1) % 2 = 0 by omega⟩
/-- behind Step, and the Swaps counted -/
def StepSt (w0 : World) (gp gc lim val val' a who q : Nat) (S : Nat → CallS) (O Sc Sw : Nat → Nat) (ups downs : Nat) (d : Bool) (er nu : Int) (wd : World) : Prop :=
  ∃ F Sw2, CntIn w0 F gc lim val' (a + 1) (updS S who (stNext val (S who))) wd ∧ PlAt wd gp gc lim ups downs O Sc Sw2 ∧ ¬ F gp ∧ wd.heap[q]? = some (.cells #[.bool d, .int .i64 er, .int .i64 nu] 71 (0, 0)) ∧ q ≠ gp ∧ ¬ F q ∧ (val' = val → Sw2 = Sw) ∧ (val' ≠ val → ∀ i, i < 64 → Sw2 i = Sw i + 1)
set_option maxHeartbeats 8000000 in
set_option maxRecDepth 100000 in
theorem hstep_busy (w0 w : World) (gp gc lim val a who : Nat) (S : Nat → CallS) (h : HoldsAt w0 gp gc lim val a S w) (hw : who < 64) (hs : S who ≠ .idle) (ha : a ≤ 1000) :
    Calls Try.prog 36 #[.pointer (some ⟨gp, 0, none⟩), .int .i64 (who : Int)] w fun e w' => e = .returned (.bool true) ∧ HoldsAt w0 gp gc lim (stVal val (S who)) (a + 1) (updS S who (stNext val (S who))) w' := by
  obtain ⟨F, ups, downs, O, Sc, Sw, h1, h2, h3, h4, h5, h6, h7, h8⟩ := h
  obtain ⟨p0, p1, p2, p3, pa, pf⟩ := h2.cells
  have hle := h1.le
  have hlm : (lim : Int) ≤ 4611686018427387903 := by obtain ⟨_, _, _, _, _, _, _, _, h⟩ := h1; exact h
  have a3 : (0 : Int) ≤ (who : Int) := by omega
  have a4 : (who : Int) < 64 := by omega
  have PF := Lib.hid (cin_pend w0 w F gc lim val a who S h1 hw true (.inl ⟨rfl, hs⟩))
  have CV := Lib.hid (cin_value w0 w F gc lim val a S h1)
  have CI := Lib.hid (cin_step w0 w F gc lim val a who S h1 hw hs (by omega))
  have AO := Lib.hid (fun hdn => at_once (val := val) (h8 who hw).1 hs hdn hlm)
  have ND := Lib.hid (fun hdn => not_done (val := val) hs hdn)
  have NX := Lib.hid (opok_next (val := val) (h8 who hw).1 hle)
  obtain ⟨er, Her⟩ : ∃ er, Hid (stErr val (S who) = er) := ⟨_, rfl⟩
  obtain ⟨nu, Hnu⟩ : ∃ nu, Hid (stNum val (S who) = nu) := ⟨_, rfl⟩
  obtain ⟨dn, Hdn⟩ : ∃ dn, Hid (stDone val (S who) = dn) := ⟨_, rfl⟩
  obtain ⟨val', Hval⟩ : ∃ v, Hid (stVal val (S who) = v) := ⟨_, rfl⟩
  rw [Her.out, Hnu.out, Hdn.out, Hval.out] at CI
  rw [Her.out, Hnu.out, Hdn.out, Hval.out] at AO ND
  rw [Hval.out]
  have H1 := Lib.hid h1; have H2 := Lib.hid h2; have H7 := Lib.hid h7; have H8 := Lib.hid h8
  have hs' := Lib.hid hs
  have hub : ups ≤ 1000 := by omega
  have hdb : downs ≤ 1000 := by omega
  have H5 := Lib.hid h5
  have H6 := Lib.hid h6
  clear h1 h2 hs h5 h6 h7 h8 pa pf
  go_enter Try.func36, Try.ntmps36
  go_wp2_with fail
  refine PF.out.mono ?_
  rintro e w1 ⟨rfl, rfl⟩
  go_wp2_with fail
  refine CV.out.mono ?_
  rintro e w1 ⟨rfl, rfl⟩
  go_wp2_with fail
  refine CI.out.mono ?_
  rintro e w1 ⟨rfl, F1, g1, g2, g3⟩
  have P1 := Lib.hid (H2.out.blk (g2.block gp H2.out.lt h3))
  have nF1 : ¬ F1 gp := fun e => by
    rcases g3 gp e with h | h
    · exact h3 h
    · have := H2.out.lt; omega
  have hv' := g1.le
  obtain ⟨W, hW⟩ : ∃ W, w1.alloc (.cells #[.bool dn, .int .i64 er, .int .i64 nu] 71) = W := ⟨_, rfl⟩
  have xW : Ext w1 W := by rw [← hW]; exact (Ext.refl w1).alloc _
  obtain ⟨q, hq⟩ : ∃ q, w1.heap.size = q := ⟨_, rfl⟩
  have KQ := Lib.hid (show W.heap[q]? = some (.cells #[.bool dn, .int .i64 er, .int .i64 nu] 71 (0, 0)) by rw [← hW]; exact blk_newk w1 _ hq)
  have hqgp : q ≠ gp := by have := P1.out.lt; omega
  have nFq : ¬ F1 q := fun e => by have := g1.lt q e; omega
  have G1 := Lib.hid (g1.ext xW)
  have CVW := Lib.hid (cin_value w0 W F1 gc lim val' (a + 1) _ G1.out)
  have PW := Lib.hid (P1.out.ext xW)
  obtain ⟨q0, q1, _, _, _, _⟩ := PW.out.cells
  clear g1 g2 g3 p0 p1 p2 p3
  go_wp2_with fail
  (try rw [hW])
  refine CVW.out.mono ?_
  rintro e w9 ⟨rfl, rfl⟩
  have b1 : ¬ (lim : Int) < (val' : Int) := by omega
  go_upto_if 61 with fail
  (try rw [hW])
  (try rw [hq])
  clear hW hq
  go_cut [10] (fun _ wd => StepSt w0 gp gc lim val val' a who q S O Sc Sw ups downs dn er nu wd)
  case first =>
    by_cases hvv : val' = val
    · subst hvv
      go_wp2_with fail
      go_meet
      exact ⟨F1, Sw, G1.out, PW.out, nF1, KQ.out, hqgp, nFq, fun _ => rfl, fun h => absurd rfl h⟩
    · have hb : ((val' : Int) == (val : Int)) = false := by rw [beq_eq_false_iff_ne]; omega
      go_wp2_with fail
      go_loopw [62] (fun i wr => ∃ (j : Nat) (Sw2 : Nat → Nat), j ≤ 64 ∧ i = .int .i64 (j : Int) ∧ CntIn w0 F1 gc lim val' (a + 1) (updS S who (stNext val (S who))) wr ∧ PlAt wr gp gc lim ups downs O Sc Sw2 ∧ wr.heap[q]? = some (.cells #[.bool dn, .int .i64 er, .int .i64 nu] 71 (0, 0)) ∧ (∀ i, i < j → Sw2 i = Sw i + 1) ∧ ∀ i, j ≤ i → Sw2 i = Sw i) (fun i _ => 64 - (intOf i).toNat)
      case atStart => exact ⟨0, Sw, by omega, rfl, G1.out, PW.out, KQ.out, fun i hi => by omega, fun _ _ => rfl⟩
      case round =>
        obtain ⟨j, Sw2, hj, rfl, r1, r2, r3, r4, r5⟩ := hrel
        by_cases hlt : j < 64
        · obtain ⟨_, _, _, _, pa, pf⟩ := r2.cells
          have cj : wr.cell? ⟨gp, 132 + j, none⟩ = some (.int .i64 (Sw j : Int)) := by rw [← r5 j (Nat.le_refl _)]; exact (pa j hlt).2.2
          have fj := pf (132 + j)
          have hb7 := (H7.out j hlt).2
          have hb8 : (Sw j : Int) ≤ 1000 := by omega
          have hbj0 : (0 : Int) ≤ (j : Int) := by omega
          have hbj : (j : Int) < 64 := by omega
          have hwr : IntKind.i64.wrap ((Sw j : Int) + 1) = (Sw j : Int) + 1 := by rw [IntKind.wrap_i64]; omega
          have gs : GB wr (wr.setCell ⟨gp, 132 + j, none⟩ (.int .i64 ((Sw j : Int) + 1))) (· = gp) := (GB.refl wr (· = gp)).set gp _ _ (.inl rfl)
          obtain ⟨o, ho, hbig⟩ := r2.big
          have N1 := Lib.hid ((r1.far gs nF1 ho hbig h4).ext (Ext.refl _).drew)
          have N2 := Lib.hid ((show PlAt (wr.setCell ⟨gp, 132 + j, none⟩ (.int .i64 ((Sw j : Int) + 1))) gp gc lim ups downs O Sc (updN Sw2 j (Sw j + 1)) from r2.setSw hlt (Sw j + 1)).ext (Ext.refl _).drew)
          have N3 := Lib.hid (blk_ext (gs.blk r3 hqgp) (Ext.refl _).drew)
          have N4 : Hid (∀ i, i < j + 1 → updN Sw2 j (Sw j + 1) i = Sw i + 1) := Lib.hid (fun i hi => by
            by_cases e : i = j
            · subst e; rw [updN_self]
            · rw [updN_other Sw2 _ e]; exact r4 i (by omega))
          have N5 : Hid (∀ i, j + 1 ≤ i → updN Sw2 j (Sw j + 1) i = Sw i) := Lib.hid (fun i hi => by rw [updN_other Sw2 _ (by omega)]; exact r5 i (by omega))
          clear r1 r2 r3 r4 r5 pa pf gs ho
          go_upto_region 13 with fail
          go_region
          all_goals
            go_wp2_with fail
            go_roundw
            case rel => exact ⟨j + 1, _, hlt, by go_num, N1.out, N2.out, N3.out, N4.out, N5.out⟩
            case measure => simp [intOf]; omega
        · have FIN := Lib.hid (show StepSt w0 gp gc lim val val' a who q S O Sc Sw ups downs dn er nu wr from ⟨F1, Sw2, r1, r2, nF1, r3, hqgp, nFq, fun h => absurd h hvv, fun _ i hi => r4 i (by omega)⟩)
          clear r1 r2 r3 r4 r5
          go_wp2_with fail
          go_meet
          exact FIN.out
  case rest =>
    obtain ⟨F2, Sw2, r1, r2, r3, r4, r5, r6, r7, r8⟩ := hcut
    obtain ⟨q0, q1, q2, q3, qa, qf⟩ := r2.cells
    have c4 := (qa who hw).1
    have c68 := (qa who hw).2.1
    have c132 := (qa who hw).2.2
    have f2 := qf 2
    have f3 := qf 3
    have f68 := qf (68 + who)
    have f132 := qf (132 + who)
    have R1 := Lib.hid r1; have R2 := Lib.hid r2; have R4 := Lib.hid r4; have R7 := Lib.hid r7; have R8 := Lib.hid r8
    have hval : val ≤ lim := H1.out.le
    have FIN : Hid (∀ (u : World) (ups' downs' : Nat), CntIn w0 F2 gc lim val' (a + 1) (updS S who (stNext val (S who))) u → PlAt u gp gc lim ups' downs' O Sc Sw2 → ups' = downs' + val' → ups' ≤ a + 1 → dn = true → HoldsAt w0 gp gc lim val' (a + 1) (updS S who (stNext val (S who))) u) := Lib.hid (fun u ups' downs' z1 z2 z3 z4 z5 => holds_fin z1 z2 r3 h4 z3 z4 H7.out H8.out hval hw (fun i hi hiw => ⟨rfl, fun e => congrFun (R7.out e) i, fun e => R8.out e i hi⟩) ⟨by have := (H7.out who hw).1; omega, by
        have := (H7.out who hw).2
        by_cases hvv : val' = val
        · rw [congrFun (R7.out hvv) who]; omega
        · rw [R8.out hvv who hw]; omega, by rw [next_done (Hdn.out.trans z5)]; trivial⟩)
    have kq0 : wc.cell? ⟨q, 0, none⟩ = some (.bool dn) := blk_cell r4 0
    have kq1 : wc.cell? ⟨q, 1, none⟩ = some (.int .i64 er) := blk_cell r4 1
    have kq2 : wc.cell? ⟨q, 2, none⟩ = some (.int .i64 nu) := blk_cell r4 2
    have BIG := Lib.hid r2.big
    clear r1 r2 r4 r7 r8 qa qf
    cases dn with
    | true =>
      have hao := AO.out rfl
      rcases hao with ⟨ho, rfl, rfl, rfl⟩ | ⟨ho, hvl, rfl, rfl, rfl⟩ | ⟨ho, hvl, rfl, rfl, rfl⟩ | ⟨ho, hne, rfl, hnu, hvd⟩ | ⟨ho, hne, rfl, hnu, hvd⟩
      · rw [ho] at c4
        have h5 := H5.out
        have hbt : ((val' : Int) == (ups : Int) - (downs : Int)) = true := by rw [beq_iff_eq]; omega
        clear h5
        have PD := Lib.hid (fun (u : World) (x : Ext wc u) => cin_pend w0 u F2 gc _ _ (a + 1) who _ (R1.out.ext x) hw false (.inr ⟨rfl, by rw [updS_self]; exact next_done Hdn.out⟩))
        go_upto_region 28 with fail
        go_quiet ((go_at_call 32; exact quiet_eq (PD.out _ ((Ext.refl wc).drewN _))))
        go_wp2_with fail
        go_ret
        exact ⟨rfl, FIN.out _ ups downs (R1.out.ext ((Ext.refl wc).drewN _)) (R2.out.ext ((Ext.refl wc).drewN _)) (by have := H5.out; omega) (by have := H6.out; have := H5.out; omega) trivial⟩
      · rw [ho] at c4
        subst hvl
        have h5 := H5.out
        have hbt : ((val' : Int) == (ups : Int) - (downs : Int)) = true := by rw [beq_iff_eq]; omega
        clear h5
        have PD := Lib.hid (fun (u : World) (x : Ext wc u) => cin_pend w0 u F2 gc _ _ (a + 1) who _ (R1.out.ext x) hw false (.inr ⟨rfl, by rw [updS_self]; exact next_done Hdn.out⟩))
        go_upto_region 28 with fail
        go_quiet ((go_at_call 32; exact quiet_eq (PD.out _ ((Ext.refl wc).drewN _))))
        go_wp2_with fail
        go_ret
        exact ⟨rfl, FIN.out _ ups downs (R1.out.ext ((Ext.refl wc).drewN _)) (R2.out.ext ((Ext.refl wc).drewN _)) (by have := H5.out; omega) (by have := H6.out; have := H5.out; omega) trivial⟩
      · rw [ho] at c4
        subst hvl
        have h5 := H5.out
        have hbt : ((0 : Int) == (ups : Int) - (downs : Int)) = true := by rw [beq_iff_eq]; omega
        clear h5
        have PD := Lib.hid (fun (u : World) (x : Ext wc u) => cin_pend w0 u F2 gc _ _ (a + 1) who _ (R1.out.ext x) hw false (.inr ⟨rfl, by rw [updS_self]; exact next_done Hdn.out⟩))
        go_upto_region 28 with fail
        go_quiet ((go_at_call 32; exact quiet_eq (PD.out _ ((Ext.refl wc).drewN _))))
        go_wp2_with fail
        go_ret
        exact ⟨rfl, FIN.out _ ups downs (R1.out.ext ((Ext.refl wc).drewN _)) (R2.out.ext ((Ext.refl wc).drewN _)) (by have := H5.out; omega) (by have := H6.out; have := H5.out; omega) trivial⟩
      · rw [ho] at c4
        have h5 := H5.out
        obtain rfl : nu = (val' : Int) := by omega
        have hvb : ((val' : Int) == (val : Int)) = false := by rw [beq_eq_false_iff_ne]; omega
        have hbt : ((val' : Int) == (ups : Int) + 1 - (downs : Int)) = true := by rw [beq_iff_eq]; omega
        have HVD := Lib.hid hvd
        clear h5 hvd hnu hne
        have gs : GB wc (wc.setCell ⟨gp, 2, none⟩ (.int .i64 ((ups : Int) + 1))) (· = gp) := (GB.refl wc (· = gp)).set gp _ _ (.inl rfl)
        obtain ⟨o, hoo, hbig⟩ := BIG.out
        have N1 := Lib.hid (R1.out.far gs r3 hoo hbig h4)
        have N2 := Lib.hid (show PlAt (wc.setCell ⟨gp, 2, none⟩ (.int .i64 ((ups : Int) + 1))) gp gc lim (ups + 1) downs O Sc Sw2 from R2.out.setUps (ups + 1))
        obtain ⟨W2, hW2⟩ : ∃ W2, wc.setCell ⟨gp, 2, none⟩ (.int .i64 ((ups : Int) + 1)) = W2 := ⟨_, rfl⟩
        rw [hW2] at N1 N2
        obtain ⟨y0, y1, y2, y3, ya, _⟩ := N2.out.cells
        have y4 := (ya who hw).1
        rw [ho] at y4
        clear ya gs hoo
        have PD := Lib.hid (fun (u : World) (x : Ext W2 u) => cin_pend w0 u F2 gc _ _ (a + 1) who _ (N1.out.ext x) hw false (.inr ⟨rfl, by rw [updS_self]; exact next_done Hdn.out⟩))
        go_upto_region 28 with fail
        (try rw [hW2])
        clear hW2
        go_quiet ((go_at_call 32; exact quiet_eq (PD.out _ ((Ext.refl W2).drewN _))))
        go_wp2_with fail
        go_ret
        exact ⟨rfl, FIN.out _ (ups + 1) downs (N1.out.ext ((Ext.refl W2).drewN _)) (N2.out.ext ((Ext.refl W2).drewN _)) (by have := H5.out; have := HVD.out; omega) (by have := H6.out; have := H5.out; have := HVD.out; omega) trivial⟩
      · rw [ho] at c4
        have h5 := H5.out
        obtain rfl : nu = (val' : Int) := by omega
        have hvb : ((val' : Int) == (val : Int)) = false := by rw [beq_eq_false_iff_ne]; omega
        have hbt : ((val' : Int) == (ups : Int) - ((downs : Int) + 1)) = true := by rw [beq_iff_eq]; omega
        have HVD := Lib.hid hvd
        clear h5 hvd hnu hne
        have gs : GB wc (wc.setCell ⟨gp, 3, none⟩ (.int .i64 ((downs : Int) + 1))) (· = gp) := (GB.refl wc (· = gp)).set gp _ _ (.inl rfl)
        obtain ⟨o, hoo, hbig⟩ := BIG.out
        have N1 := Lib.hid (R1.out.far gs r3 hoo hbig h4)
        have N2 := Lib.hid (show PlAt (wc.setCell ⟨gp, 3, none⟩ (.int .i64 ((downs : Int) + 1))) gp gc lim ups (downs + 1) O Sc Sw2 from R2.out.setDowns (downs + 1))
        obtain ⟨W2, hW2⟩ : ∃ W2, wc.setCell ⟨gp, 3, none⟩ (.int .i64 ((downs : Int) + 1)) = W2 := ⟨_, rfl⟩
        rw [hW2] at N1 N2
        obtain ⟨y0, y1, y2, y3, ya, _⟩ := N2.out.cells
        have y4 := (ya who hw).1
        rw [ho] at y4
        clear ya gs hoo
        have PD := Lib.hid (fun (u : World) (x : Ext W2 u) => cin_pend w0 u F2 gc _ _ (a + 1) who _ (N1.out.ext x) hw false (.inr ⟨rfl, by rw [updS_self]; exact next_done Hdn.out⟩))
        go_upto_region 28 with fail
        (try rw [hW2])
        clear hW2
        go_quiet ((go_at_call 32; exact quiet_eq (PD.out _ ((Ext.refl W2).drewN _))))
        go_wp2_with fail
        go_ret
        exact ⟨rfl, FIN.out _ ups (downs + 1) (N1.out.ext ((Ext.refl W2).drewN _)) (N2.out.ext ((Ext.refl W2).drewN _)) (by have := H5.out; have := HVD.out; omega) (by have := H6.out; have := H5.out; have := HVD.out; omega) trivial⟩
    | false =>
      obtain ⟨e1, e2, e3⟩ := ND.out rfl
      subst e1 e2 e3
      have hw2 : Sw2 = Sw := R7.out rfl
      subst hw2
      have h7w := H7.out who hw
      have BC := Lib.hid (busy_case hs'.out Hdn.out (H8.out who hw).2)
      obtain ⟨z, hz⟩ : ∃ z, Hid (Sc who + 1 = z) := ⟨_, rfl⟩
      obtain ⟨y, hy⟩ : ∃ y, Hid (Sw2 who = y) := ⟨_, rfl⟩
      rw [hz.out, hy.out] at BC
      have hza : z ≤ a + 1 := by have := hz.out; omega
      have hya : y ≤ a + 1 := by have := hy.out; omega
      have scb : Sc who ≤ 1000 := by omega
      have gs : GB wc (wc.setCell ⟨gp, 68 + who, none⟩ (.int .i64 ((Sc who : Int) + 1))) (· = gp) := (GB.refl wc (· = gp)).set gp _ _ (.inl rfl)
      obtain ⟨o, hoo, hbig⟩ := BIG.out
      have N1 := Lib.hid ((R1.out.far gs r3 hoo hbig h4).ext (Ext.refl _).drew)
      have N2 := Lib.hid ((show PlAt (wc.setCell ⟨gp, 68 + who, none⟩ (.int .i64 ((Sc who : Int) + 1))) gp gc lim ups downs O (updN Sc who (Sc who + 1)) Sw2 from R2.out.setSc hw (Sc who + 1)).ext (Ext.refl _).drew)
      rw [hz.out] at N2
      clear gs hoo h7w
      go_upto_region 31 with fail
      go_region
      all_goals
        obtain ⟨W2, hW2⟩ : ∃ W2, (wc.setCell ⟨gp, 68 + who, none⟩ (.int .i64 ((Sc who : Int) + 1))).drew = W2 := ⟨_, rfl⟩
        rw [hW2] at N1 N2
        (try rw [hW2])
        clear hW2 q0 q1 q2 q3 c4 c68 c132 kq0 kq1 kq2 f2 f3 f68 f132
        obtain ⟨y0, y1, y2, y3, ya, yf⟩ := N2.out.cells
        have y68 := (ya who hw).2.1
        have y132 := (ya who hw).2.2
        rw [updN_self] at y68
        rw [hy.out] at y132
        have yf132 := yf (132 + who)
        clear ya yf
        rcases BC.out with ⟨hp, hpar⟩ | ⟨hp, hne, hpar⟩
        · have hz2 : z % 2 = 1 := by have := hz.out; omega
          have HPA := Lib.hid hpar
          clear hp hpar
          have hz3 : (z : Int) % 2 = 1 := by omega
          go_wp2_with fail
          go_ret
          have gs2 : GB W2 (W2.setCell ⟨gp, 132 + who, none⟩ (.int .i64 0)) (· = gp) := (GB.refl W2 (· = gp)).set gp _ _ (.inl rfl)
          obtain ⟨o2, ho2, hb2⟩ := N2.out.big
          exact ⟨rfl, holds_fin (N1.out.far gs2 r3 ho2 hb2 h4) (N2.out.setSw hw 0) r3 h4 H5.out (by have := H6.out; omega) H7.out H8.out H1.out.le hw (fun i hi hiw => ⟨updN_other _ _ hiw, fun _ => updN_other _ _ hiw, fun e => absurd rfl e⟩) ⟨by rw [updN_self]; exact hza, by rw [updN_self]; exact Nat.zero_le _, by rw [updN_self, updN_self]; exact HPA.out⟩⟩
        · have hz2 : z % 2 = 0 := by have := hz.out; omega
          have HPA := Lib.hid hpar
          clear hp hpar
          have hz3 : (z : Int) % 2 = 0 := by omega
          have hy0 : ((y : Int) == 0) = false := by rw [beq_eq_false_iff_ne]; omega
          clear hne
          go_wp2_with fail
          go_ret
          exact ⟨rfl, holds_fin N1.out N2.out r3 h4 H5.out (by have := H6.out; omega) H7.out H8.out H1.out.le hw (fun i hi hiw => ⟨updN_other _ _ hiw, fun _ => rfl, fun e => absurd rfl e⟩) ⟨by rw [updN_self]; exact hza, by rw [hy.out]; exact hya, by rw [updN_self, hy.out]; exact HPA.out⟩⟩
end Go.Proofs.Ytfjgpeffhbfihaa
