/- spigotref13: collect, the walk. -/
import Derived.Test.YtlgggeeflomelaaDcG
import Derived.BigQuiet
namespace Go.Proofs.Ytlgggeeflomelaa
open Go.RowKit

set_option maxHeartbeats 2000000 in
set_option maxRecDepth 100000 in
theorem dcollect_any (w : World) (F : Nat → Prop) (gk n who : Nat) (d : DSt) (h : DAt w F gk n d) (hw : who < n) (hee : d.ep ≤ 1000000) (hlen : (d.wk who).held.length ≤ 1000000) (hep : ∀ t ∈ (d.wk who).held, t.2 ≤ 1000000) :
    Calls Try.prog 59 #[.pointer (some ⟨gk + 1, 0, none⟩), .pointer (some ⟨gk, who * 7, none⟩)] w (DRet w F gk n (d.put who { d.wk who with held := stayOf d.ep (d.wk who).held, op := 0 }) true 0 ((oldOf d.ep (d.wk who).held).length : Int) (oldOf d.ep (d.wk who).held)) := by
  obtain ⟨V, hV⟩ : ∃ V, w.alloc (.cells #[.bool false, .int .i64 0, .int .i64 0, .slice none 0 0] 52) = V := ⟨_, rfl⟩
  have xV : Ext w V := by rw [← hV]; exact (Ext.refl w).alloc _
  have KR := Lib.hid (show V.heap[w.heap.size]? = some (.cells #[.bool false, .int .i64 0, .int .i64 0, .slice none 0 0] 52 (0, 0)) by rw [← hV]; exact blk_new w _)
  have EN := Lib.hid (dend_nil V F gk n who d 0 0 (h.ext xV) hw)
  have HLT := Lib.hid h.lt
  have HF := Lib.hid h.in
  obtain ⟨ee, hEe⟩ : ∃ ee, Hid (d.ep = ee) := ⟨_, Lib.hid rfl⟩
  obtain ⟨xs, hxs⟩ : ∃ xs, Hid ((d.wk who).held = xs) := ⟨_, Lib.hid rfl⟩
  rw [hxs.out] at hlen hep ⊢
  rw [hEe.out] at hee ⊢
  obtain ⟨m, hm⟩ : ∃ m, xs.length = m := ⟨_, rfl⟩
  have Hm := Lib.hid hm
  rw [hm] at hlen
  have HEP := Lib.hid hep
  have wE : IntKind.i64.wrap ((ee : Int) - 2) = (ee : Int) - 2 := by rw [IntKind.wrap_i64]; omega
  have hvs : w.heap.size < V.heap.size := blk_lt KR.out
  clear h hm hep
  go_enter Try.func59, Try.ntmps59
  go_upto_region 1 with fail
  (try rw [hV])
  clear hV
  go_wp2_with fail
  refine EN.out.mono ?_
  rintro e1 w2 ⟨rfl, D1, g2⟩
  have hr2 : w.heap.size ≠ w2.heap.size := fun e => by have := g2.size; omega
  have KR2 := g2.blk KR.out (fun e => Nat.lt_irrefl _ (HLT.out _ e))
  have hF2 : ∀ i, F i → i < w2.heap.size := D1.lt
  have D2 := Lib.hid D1
  have G2 := Lib.hid g2
  have K2 := Lib.hid KR2
  have hF2 := Lib.hid hF2
  clear D1 g2 KR2
  go_upto_region 3 with fail
  obtain ⟨W, hW⟩ : ∃ W, w2.alloc (.cells #[.bool true, .int .i64 0, .int .i64 0, .slice none 0 0] 52) = W := ⟨_, rfl⟩
  have xW : Ext w2 W := by rw [← hW]; exact (Ext.refl w2).alloc _
  have KW0 : W.heap[w2.heap.size]? = some (.cells #[.bool true, .int .i64 0, .int .i64 0, .slice none 0 0] 52 (0, 0)) := by rw [← hW]; exact blk_new w2 _
  obtain ⟨rb, hrb⟩ : ∃ rb, Hid (w2.heap.size = rb) := ⟨_, Lib.hid rfl⟩
  (try rw [hW])
  rw [hrb.out] at KW0 hr2 hF2 ⊢
  have DW := Lib.hid (D2.out.ext xW)
  obtain ⟨B0, c, -, -, u0, ux, -, hcs, fz, ho, hoF, -, -⟩ := DW.out.wk hw
  have uh : W.cell? ⟨gk, who * 7 + 5, none⟩ = some (.slice B0 ((d.put who { d.wk who with op := 0 }).wk who).held.length c) := hcs 5 (by omega)
  clear hcs
  have hFrb : Hid (¬ F rb) := Lib.hid (fun hf => Nat.lt_irrefl _ (hF2.out _ hf))
  have PUT := Lib.hid (fun (wr : World) (B' : Option Addr) (c' : Nat) (l' : List (Int × Nat)) g ho hq => DW.out.put_held (w3 := wr) (B' := B') (c' := c') (l' := l') (S := (· = rb)) hw uh g (fun i e => .inr (e ▸ hFrb.out)) ho hq)
  rw [show (d.put who { d.wk who with op := 0 }).ep = ee from hEe.out] at u0
  rw [dput_self] at uh ho hoF
  rw [show (DWk.mk 0 (d.wk who).place (d.wk who).e (d.wk who).thing (d.wk who).pinned (d.wk who).held (d.wk who).p).held = xs from hxs.out] at uh ho hoF
  rw [Hm.out] at uh ho hoF
  have HOF := Lib.hid hoF
  have HO := Lib.hid ho
  have KW := Lib.hid KW0
  have XW := Lib.hid xW
  have hrbW : rb < W.heap.size := blk_lt KW.out
  have hgx : gk + 1 ≠ rb := fun e => Nat.lt_irrefl _ (e ▸ hF2.out _ HF.out.1)
  have hgw : gk ≠ rb := fun e => Nat.lt_irrefl _ (e ▸ hF2.out _ HF.out.2)
  have f5 := fz (who * 7 + 5)
  clear ho hoF KW0 xW hW fz
  go_wp2_with fail
  go_loopw [6, 16] (fun v6 i wr => ∃ k, k ≤ m ∧ i = .int .i64 (k : Int) ∧ DColl W rb ee k xs v6 wr) (fun _ i _ => m - (intOf i).toNat)
  case atStart => exact ⟨0, Nat.zero_le _, rfl, none, 0, 0, none, 0, 0, rfl, KW.out, World.ownsRow_nil _ _ _ _, World.ownsRow_nil _ _ _ _, Nat.le_refl _, Nat.le_refl _, (fun q e => by cases e), GB.refl W _⟩
  case round =>
    obtain ⟨k, hk, rfl, A, a, ca, B, b, cb, rfl, hR, hA, hB, ha, hb, hne, hx⟩ := hrel
    by_cases hlt : k < m
    · obtain ⟨t, ht⟩ : ∃ t, xs[k]? = some t := ⟨_, List.getElem?_eq_getElem (by rw [Hm.out]; exact hlt)⟩
      obtain ⟨bb, hbb, c0, c1⟩ := down_thing HO.out ht
      subst hbb
      have hbr : bb ≠ rb := fun e => Nat.lt_irrefl _ (e ▸ hF2.out _ (HOF.out bb rfl).1)
      have d0 := hx.cell c0 hbr; have d1 := hx.cell c1 hbr; have d2 := hx.cell u0 hgx
      have ht2 : t.2 ≤ 1000000 := HEP.out t (List.mem_of_getElem? ht)
      have Ht := Lib.hid ht; have HX := Lib.hid hx; have HA := Lib.hid hA; have HB := Lib.hid hB; have HN := Lib.hid hne; have HR := Lib.hid hR
      have hs : W.heap.size ≤ wr.heap.size := hx.size
      clear ht hx hA hB hne c0 c1 hR
      go_upto_region 6 with fail
      obtain ⟨T, hT⟩ : ∃ T, wr.alloc (.cells #[.int .i64 t.1, .int .i64 (t.2 : Int)] 138) = T := ⟨_, rfl⟩
      have xT : Ext wr T := by rw [← hT]; exact (Ext.refl wr).alloc _
      have KT : T.heap[wr.heap.size]? = some (.cells #[.int .i64 t.1, .int .i64 (t.2 : Int)] 138 (0, 0)) := by rw [← hT]; exact blk_new wr _
      (try rw [hT])
      have e2 := ext_cell xT d2
      have t0 := blk_cell KT 0
      have t1 := blk_cell KT 1
      clear hT d0 d1 d2
      go_quiet (fail)
      obtain ⟨U, hU⟩ : ∃ U, T.drewN nq = U := ⟨_, rfl⟩
      have xTU : Ext T U := by rw [← hU]; exact (Ext.refl T).drewN nq
      have xU := Lib.hid (xT.trans xTU)
      have KU := blk_ext KT xTU
      have a0 := blk_cell KU 0
      have a1 := blk_cell KU 1
      have KRU := blk_ext HR.out xU.out
      have r0 := blk_cell KRU 0; have r1 := blk_cell KRU 1; have r2 := blk_cell KRU 2; have r3 := blk_cell KRU 3
      have z2 := blk_frozen KRU 2; have z3 := blk_frozen KRU 3
      have hsU : W.heap.size ≤ U.heap.size := Nat.le_trans hs xU.out.size
      (try rw [hU])
      clear hU xTU KU KT xT t0 t1 e2 KRU
      have wA : IntKind.i64.wrap ((a : Int) + 1) = (a : Int) + 1 := by rw [IntKind.wrap_i64]; omega
      by_cases hot : t.2 + 2 ≤ ee
      · have q1 : (t.2 : Int) ≤ (ee : Int) - 2 := by omega
        have HOT := Lib.hid (show isOld ee t = true from decide_eq_true hot)
        clear hot
        go_wp2_with (at_builtin; refine app_int _ rfl (.tmp 29) (.tmp 32) rfl W.heap.size rfl ((own_ext HA.out xU.out).alloc _) rfl (m := 1) (news := [t.1]) rfl (rd_newk U [.int .i64 t.1] _ (by simp)) (by omega) (by rw [World.size_alloc]; omega) ?_; intro A1 c1 w1 hown1 hgrow1 hb1; obtain ⟨hR1, CO'⟩ := dcoll_old hrbW Ht.out HOT.out HX.out (xU.out.alloc _) HR.out HA.out HB.out HN.out ha hb hown1 hgrow1 rfl hb1; have CO := Lib.hid CO'; have s2 := blk_cell hR1 2; have s3 := blk_cell hR1 3; have y2 := blk_frozen hR1 2; have y3 := blk_frozen hR1 3; clear hown1 hgrow1 hb1 CO' hR1 r0 r1 r2 r3 z2 z3 a0 a1)
        go_roundw
        case rel => exact ⟨k + 1, hlt, by go_num, CO.out⟩
        case measure => simp [intOf]; omega
      · have q1 : ¬ (t.2 : Int) ≤ (ee : Int) - 2 := by omega
        have HOT := Lib.hid (show isOld ee t = false from decide_eq_false hot)
        clear hot
        go_wp2_with (at_builtin; refine app_dthing _ rfl (.tmp 39) (.tmp 41) rfl W.heap.size rfl ((own_ext HB.out xU.out).alloc _) t rfl (rd_newk U (dtc t) _ (by simp)) (by omega) (by rw [World.size_alloc]; omega) ?_; intro A1 c1 w1 hown1 hgrow1 hb1; have CO := Lib.hid (dcoll_stay hrbW Ht.out HOT.out HX.out (xU.out.alloc _) HR.out HA.out HB.out HN.out ha hb hown1 hgrow1 rfl hb1); clear hown1 hgrow1 hb1)
        go_roundw
        case rel => exact ⟨k + 1, hlt, by go_num, CO.out⟩
        case measure => simp [intOf]; omega
    · obtain rfl : k = m := by omega
      rw [List.take_of_length_le (by rw [Hm.out]; exact Nat.le_refl _)] at hA hB
      have hla : (oldOf ee xs).length = a := by have := hA.1; rw [ivals_len] at this; omega
      have hlb : (stayOf ee xs).length = b := by have := hB.1; rw [dthings_len] at this; omega
      subst hlb
      have hWF : ∀ i, F i → i < W.heap.size := fun i hi => Nat.lt_trans (hF2.out i hi) hrbW
      have hgW : gk + 1 ≤ W.heap.size := Nat.le_of_lt (hWF _ HF.out.1)
      have HP := Lib.hid (PUT.out wr B cb (stayOf ee xs) hx (own_base hB hgW) (fun q hq => .inr ⟨fun hf => by have := hWF q hf; have := (hB.lt q hq).1; omega, fun e => by have := hWF _ HF.out.1; have := (hB.lt q hq).1; omega⟩))
      rw [dput_put, dput_self] at HP
      have HA := Lib.hid hA
      have HNE := Lib.hid hne
      have HBq := Lib.hid (fun q hq => (hB.lt q hq))
      have uh' := hx.cell uh hgw
      have uf' : wr.frozen? ⟨gk, who * 7 + 5, none⟩ = false := (frozen_gb hx (hWF _ HF.out.2) hgw).trans f5
      have hrg : w.heap.size ≠ gk := fun e => Nat.lt_irrefl _ (HLT.out _ (e ▸ HF.out.2))
      have KE := blk_grown hR (grown_set wr gk (who * 7 + 5) (.slice B (stayOf ee xs).length cb)) (Ne.symm hgw)
      have r0 := blk_cell KE 0; have r1 := blk_cell KE 1; have r2 := blk_cell KE 2; have r3 := blk_cell KE 3
      have KF := Lib.hid (blk_grown (hx.blk (blk_ext K2.out XW.out) hr2) (grown_set wr gk (who * 7 + 5) (.slice B (stayOf ee xs).length cb)) hrg)
      have s0 := blk_cell KF.out 0; have s1 := blk_cell KF.out 1; have s2 := blk_cell KF.out 2; have s3 := blk_cell KF.out 3
      have z0 := blk_frozen KF.out 0; have z1 := blk_frozen KF.out 1; have z2 := blk_frozen KF.out 2; have z3 := blk_frozen KF.out 3
      have GW := Lib.hid (show GB w (wr.setCell ⟨gk, who * 7 + 5, none⟩ (.slice B (stayOf ee xs).length cb)) F from ((((GB.of_ext F xV).trans G2.out (fun i hi => .inl hi)).ext XW.out).trans hx (fun i e => .inr (by have := G2.out.size; have := hrb.out; omega))).set gk _ _ (.inl HF.out.2))
      have HWF := Lib.hid hWF
      have hsW : w.heap.size < W.heap.size := by have := G2.out.size; have := XW.out.size; omega
      clear hR hA hB hne hx uh f5 KE u0 ux hWF
      go_wp2_with fail
      refine bodyPost_ret (results_cell_row (p := 4) rfl _ _ w.heap.size _ #[.bool true, .int .i64 0, .int .i64 (a : Int), .slice A a ca] (0, 0) _ rfl (row4 KF.out _ _ _ _) Try.underlying52 (by rfl) (by kernel_rfl)) rfl ?_
      (try rw [hla])
      obtain ⟨F', y1, y2, y3⟩ := HP.out
      refine ⟨A, a, ca, F', rfl, y1.gb (put4_gb _ _ _ _ _ _) (fun i hi e => ?_), GW.out.trans (put4_gb _ _ _ _ _ _) (fun i e => .inr (by omega)), y2, fun i hi => (y3 i hi).imp id (fun e => by have := (HBq.out i e).1; omega), ?_, fun q hq hF' => ?_⟩
      · rcases y3 i hi with h | h
        · have := HLT.out i h; omega
        · have := (HBq.out i h).1; omega
      · exact own_base ((put4_gb _ _ _ _ _ _).own (own_set HA.out (HWF.out _ HF.out.2)) (fun q hq e => by have := (HA.out.lt q hq).1; omega)) (Nat.le_of_lt hsW)
      · have hq2 := HA.out.lt q hq
        rcases y3 q hF' with e | e
        · have := HWF.out q e; omega
        · exact HNE.out q hq e
end Go.Proofs.Ytlgggeeflomelaa
