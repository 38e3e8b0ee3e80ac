/- spigotref13: advance. Printed by gen_dce.py. -/
import Derived.Test.YtlgggeeflomelaaDcD
namespace Go.Proofs.Ytlgggeeflomelaa
open Go.RowKit

theorem dput_ep (d : DSt) (who : Nat) (y z : DWk) (x : Nat) : ({ d.put who y with ep := x } : DSt).put who z = { d.put who z with ep := x } := congrArg (fun s : DSt => ({ s with ep := x } : DSt)) (dput_put d who y z)
theorem dput_p (d : DSt) (who i : Nat) (y : DWk) (hy : y.p = (d.wk who).p) : ((d.put who y).wk i).p = (d.wk i).p := by
  by_cases e : i = who
  · subst e
    rw [dput_self, hy]
  · rw [dput_other d y e]
set_option maxHeartbeats 2000000 in
set_option maxRecDepth 100000 in
theorem dadv_first (w : World) (F : Nat → Prop) (gk n who : Nat) (d : DSt) (h : DAt w F gk n d) (hw : who < n) (hn : n ≤ 64) (hpl : (d.wk who).place = 0) (he : (d.wk who).e ≤ 1000000) (hep : d.ep ≤ 1000000) :
    Calls Try.prog 58 #[.pointer (some ⟨gk + 1, 0, none⟩), .pointer (some ⟨gk, who * 7, none⟩)] w (DRet w F gk n (d.put who { d.wk who with place := 1, e := d.ep }) false 0 0 []) := by
  obtain ⟨W, hW⟩ : ∃ W, w.alloc (.cells #[.bool false, .int .i64 0, .int .i64 0, .slice none 0 0] 52) = W := ⟨_, rfl⟩
  have xW : Ext w W := by rw [← hW]; exact (Ext.refl w).alloc _
  have KR := show W.heap[w.heap.size]? = some (.cells #[.bool false, .int .i64 0, .int .i64 0, .slice none 0 0] 52 (0, 0)) by rw [← hW]; exact blk_new w _
  have hE := h.ext xW
  obtain ⟨B, c, -, -, -, c1, -, -, -, -, -, fz, -⟩ := hE.cells hw
  have f1 := fz (who * 7 + 1)
  obtain ⟨e, hee⟩ : ∃ e, Hid ((d.wk who).e = e) := ⟨_, Lib.hid rfl⟩
  obtain ⟨ep, hEp⟩ : ∃ ep, Hid (d.ep = ep) := ⟨_, Lib.hid rfl⟩
  rw [hpl] at c1
  have c1 : W.cell? ⟨gk, who * 7 + 1, none⟩ = some (.int .i64 (0 : Int)) := c1
  rw [hee.out] at he
  rw [hEp.out] at hep ⊢
  have HPL := Lib.hid hpl
  have P1 := Lib.hid (hE.put1 hw 1 (.int .i64 (1 : Int)) { d.wk who with place := 0 + 1 } (by omega) (by omega) (fun v => rfl) rfl)
  have HLT := Lib.hid h.lt
  have HF := Lib.hid h.in
  have hrg : w.heap.size ≠ gk := fun e => Nat.lt_irrefl _ (HLT.out _ (e ▸ HF.out.2))
  have hrx : w.heap.size ≠ gk + 1 := fun e => Nat.lt_irrefl _ (HLT.out _ (e ▸ HF.out.1))
  have KR1 := Lib.hid (blk_grown KR (grown_set W gk (who * 7 + 1) (.int .i64 (1 : Int))) hrg)
  have HX := Lib.hid xW
  clear h hE fz KR xW hpl
  have w1 : IntKind.i64.wrap ((0 : Int) - 1) = -1 := by rw [IntKind.wrap_i64]; omega
  have w2 : IntKind.i64.wrap (1 : Int) = (1 : Int) := by rw [IntKind.wrap_i64]; omega
  have w3 : IntKind.i64.wrap ((e : Int) + 1) = (e : Int) + 1 := by rw [IntKind.wrap_i64]; omega
  have w4 : IntKind.i64.wrap ((ep : Int) + 1) = (ep : Int) + 1 := by rw [IntKind.wrap_i64]; omega
  have _h := hn
  clear _h
  go_enter Try.func58, Try.ntmps58
  go_upto_region 1 with fail
  (try rw [hW])
  clear hW
  go_upto_region 3 with fail
  obtain ⟨U, hU⟩ : ∃ U, W.setCell ⟨gk, who * 7 + 1, none⟩ (.int .i64 (1 : Int)) = U := ⟨_, rfl⟩
  rw [hU] at P1 KR1
  have gU := Lib.hid (show GB w U F by rw [← hU]; exact (GB.of_ext F HX.out).set gk (who * 7 + 1) (.int .i64 (1 : Int)) (.inl HF.out.2))
  obtain ⟨B', c', u0, ux, uo, u1, u2, -, -, -, -, fz, -⟩ := P1.out.cells hw
  rw [show (d.put who { d.wk who with place := 0 + 1 }).ep = ep from hEp.out] at u0
  rw [dput_self] at uo u1 u2
  rw [show (DWk.mk (d.wk who).op (0 + 1) (d.wk who).e (d.wk who).thing (d.wk who).pinned (d.wk who).held (d.wk who).p).e = e from hee.out] at u2
  (try rw [hU])
  clear c1 f1 hU
  have P2 := P1.out.put1 hw 2 (.int .i64 (ep : Int)) { d.wk who with place := 1, e := ep } (by omega) (by omega) (fun v => by rw [dput_self]; rfl) (by rw [dput_self])
  rw [dput_put] at P2
  have P := Lib.hid P2
  have g2 := fz (who * 7 + 2)
  have KR3 := Lib.hid (blk_grown KR1.out (grown_set U gk (who * 7 + 2) (.int .i64 (ep : Int))) hrg)
  have r0 := blk_cell KR3.out 0; have r1 := blk_cell KR3.out 1; have r2 := blk_cell KR3.out 2; have r3 := blk_cell KR3.out 3
  have z0 := blk_frozen KR3.out 0; have z1 := blk_frozen KR3.out 1; have z2 := blk_frozen KR3.out 2; have z3 := blk_frozen KR3.out 3
  clear P2 fz
  go_wp2_with fail
  refine bodyPost_ret (results_cell_row (p := 4) rfl _ _ w.heap.size _ #[.bool false, .int .i64 0, .int .i64 0, .slice none 0 0] (0, 0) _ rfl (row4 KR3.out _ _ _ _) Try.underlying52 (by rfl) (by kernel_rfl)) rfl ?_
  exact dret_nil P.out (gU.out.set gk _ _ (.inl HF.out.2)) HLT.out _ _ _ _ false 0 0
set_option maxHeartbeats 2000000 in
set_option maxRecDepth 100000 in
theorem dadv_busy (w : World) (F : Nat → Prop) (gk n who i : Nat) (d : DSt) (h : DAt w F gk n d) (hw : who < n) (hn : n ≤ 64) (hpl : (d.wk who).place = i + 1) (he : (d.wk who).e ≤ 1000000) (hep : d.ep ≤ 1000000) (hi : i < n) (hc : (d.wk i).p ≠ 0 ∧ (d.wk i).p ≠ (d.wk who).e + 1) :
    Calls Try.prog 58 #[.pointer (some ⟨gk + 1, 0, none⟩), .pointer (some ⟨gk, who * 7, none⟩)] w (DRet w F gk n (d.put who { d.wk who with place := i + 1 + 1, op := 0 }) true (9 : Int) 0 []) := by
  obtain ⟨W, hW⟩ : ∃ W, w.alloc (.cells #[.bool false, .int .i64 0, .int .i64 0, .slice none 0 0] 52) = W := ⟨_, rfl⟩
  have xW : Ext w W := by rw [← hW]; exact (Ext.refl w).alloc _
  have KR := show W.heap[w.heap.size]? = some (.cells #[.bool false, .int .i64 0, .int .i64 0, .slice none 0 0] 52 (0, 0)) by rw [← hW]; exact blk_new w _
  have hE := h.ext xW
  obtain ⟨B, c, -, -, -, c1, -, -, -, -, -, fz, -⟩ := hE.cells hw
  have f1 := fz (who * 7 + 1)
  obtain ⟨e, hee⟩ : ∃ e, Hid ((d.wk who).e = e) := ⟨_, Lib.hid rfl⟩
  obtain ⟨ep, hEp⟩ : ∃ ep, Hid (d.ep = ep) := ⟨_, Lib.hid rfl⟩
  rw [hpl] at c1
  have c1 : W.cell? ⟨gk, who * 7 + 1, none⟩ = some (.int .i64 ((i : Int) + 1)) := c1
  rw [hee.out] at he hc
  rw [hEp.out] at hep
  have HPL := Lib.hid hpl
  have P1 := Lib.hid (hE.put1 hw 1 (.int .i64 ((i : Int) + 1 + 1)) { d.wk who with place := i + 1 + 1 } (by omega) (by omega) (fun v => rfl) rfl)
  have HLT := Lib.hid h.lt
  have HF := Lib.hid h.in
  have hrg : w.heap.size ≠ gk := fun e => Nat.lt_irrefl _ (HLT.out _ (e ▸ HF.out.2))
  have hrx : w.heap.size ≠ gk + 1 := fun e => Nat.lt_irrefl _ (HLT.out _ (e ▸ HF.out.1))
  have KR1 := Lib.hid (blk_grown KR (grown_set W gk (who * 7 + 1) (.int .i64 ((i : Int) + 1 + 1))) hrg)
  have HX := Lib.hid xW
  clear h hE fz KR xW hpl
  have w1 : IntKind.i64.wrap (((i : Int) + 1) - 1) = (i : Int) := by rw [IntKind.wrap_i64]; omega
  have w2 : IntKind.i64.wrap ((i : Int) + 1 + 1) = ((i : Int) + 1 + 1) := by rw [IntKind.wrap_i64]; omega
  have w3 : IntKind.i64.wrap ((e : Int) + 1) = (e : Int) + 1 := by rw [IntKind.wrap_i64]; omega
  have w4 : IntKind.i64.wrap ((ep : Int) + 1) = (ep : Int) + 1 := by rw [IntKind.wrap_i64]; omega
  obtain ⟨p, hp⟩ : ∃ p, Hid ((d.wk i).p = p) := ⟨_, Lib.hid rfl⟩
  rw [hp.out] at hc
  have q1 : ((p : Int) != 0) = true := by rw [bne_iff_ne]; omega
  have q2 : ((p : Int) != (e : Int) + 1) = true := by rw [bne_iff_ne]; omega
  have q3 : ¬ (i : Int) < 0 := by omega
  clear hc
  go_enter Try.func58, Try.ntmps58
  go_upto_region 1 with fail
  (try rw [hW])
  clear hW
  go_upto_region 3 with fail
  obtain ⟨U, hU⟩ : ∃ U, W.setCell ⟨gk, who * 7 + 1, none⟩ (.int .i64 ((i : Int) + 1 + 1)) = U := ⟨_, rfl⟩
  rw [hU] at P1 KR1
  have gU := Lib.hid (show GB w U F by rw [← hU]; exact (GB.of_ext F HX.out).set gk (who * 7 + 1) (.int .i64 ((i : Int) + 1 + 1)) (.inl HF.out.2))
  obtain ⟨B', c', u0, ux, uo, u1, u2, -, -, -, -, fz, -⟩ := P1.out.cells hw
  rw [show (d.put who { d.wk who with place := i + 1 + 1 }).ep = ep from hEp.out] at u0
  rw [dput_self] at uo u1 u2
  rw [show (DWk.mk (d.wk who).op (i + 1 + 1) (d.wk who).e (d.wk who).thing (d.wk who).pinned (d.wk who).held (d.wk who).p).e = e from hee.out] at u2
  (try rw [hU])
  clear c1 f1 hU
  obtain ⟨_, _, -, -, -, -, -, -, -, -, v6, -⟩ := P1.out.cells hi
  rw [(dput_p d who i { d.wk who with place := i + 1 + 1 } rfl).trans hp.out] at v6
  have hin : (i : Int) < (n : Int) := by omega
  have EN := Lib.hid (P1.out.dend hw { d.wk who with place := i + 1 + 1 } { d.wk who with place := i + 1 + 1, op := 0 } rfl d rfl 9 0)
  clear fz
  go_wp2_with fail
  refine EN.out.mono ?_
  rintro e1 w3 hd
  have HD := Lib.hid hd
  obtain ⟨A, m, k, F', rfl, h1, h2, h3, h4, h5⟩ := hd
  have KR4 := Lib.hid (h2.blk KR1.out (fun e => Nat.lt_irrefl _ (HLT.out _ e)))
  have r0 := blk_cell KR4.out 0; have r1 := blk_cell KR4.out 1; have r2 := blk_cell KR4.out 2; have r3 := blk_cell KR4.out 3
  have z0 := blk_frozen KR4.out 0; have z1 := blk_frozen KR4.out 1; have z2 := blk_frozen KR4.out 2; have z3 := blk_frozen KR4.out 3
  clear h1 h2 h3 h4 h5
  go_wp2_with fail
  refine bodyPost_ret (results_cell_row (p := 4) rfl _ _ w.heap.size _ #[.bool true, .int .i64 9, .int .i64 0, .slice A m k] (0, 0) _ rfl (row4 KR4.out _ _ _ _) Try.underlying52 (by rfl) (by kernel_rfl)) rfl ?_
  exact dret_put gU.out (blk_lt KR1.out) HLT.out _ _ _ _ HD.out
set_option maxHeartbeats 2000000 in
set_option maxRecDepth 100000 in
theorem dadv_zero (w : World) (F : Nat → Prop) (gk n who i : Nat) (d : DSt) (h : DAt w F gk n d) (hw : who < n) (hn : n ≤ 64) (hpl : (d.wk who).place = i + 1) (he : (d.wk who).e ≤ 1000000) (hep : d.ep ≤ 1000000) (hi : i < n) (hc : (d.wk i).p = 0) :
    Calls Try.prog 58 #[.pointer (some ⟨gk + 1, 0, none⟩), .pointer (some ⟨gk, who * 7, none⟩)] w (DRet w F gk n (d.put who { d.wk who with place := i + 1 + 1 }) false 0 0 []) := by
  obtain ⟨W, hW⟩ : ∃ W, w.alloc (.cells #[.bool false, .int .i64 0, .int .i64 0, .slice none 0 0] 52) = W := ⟨_, rfl⟩
  have xW : Ext w W := by rw [← hW]; exact (Ext.refl w).alloc _
  have KR := show W.heap[w.heap.size]? = some (.cells #[.bool false, .int .i64 0, .int .i64 0, .slice none 0 0] 52 (0, 0)) by rw [← hW]; exact blk_new w _
  have hE := h.ext xW
  obtain ⟨B, c, -, -, -, c1, -, -, -, -, -, fz, -⟩ := hE.cells hw
  have f1 := fz (who * 7 + 1)
  obtain ⟨e, hee⟩ : ∃ e, Hid ((d.wk who).e = e) := ⟨_, Lib.hid rfl⟩
  obtain ⟨ep, hEp⟩ : ∃ ep, Hid (d.ep = ep) := ⟨_, Lib.hid rfl⟩
  rw [hpl] at c1
  have c1 : W.cell? ⟨gk, who * 7 + 1, none⟩ = some (.int .i64 ((i : Int) + 1)) := c1
  rw [hee.out] at he
  rw [hEp.out] at hep
  have HPL := Lib.hid hpl
  have P1 := Lib.hid (hE.put1 hw 1 (.int .i64 ((i : Int) + 1 + 1)) { d.wk who with place := i + 1 + 1 } (by omega) (by omega) (fun v => rfl) rfl)
  have HLT := Lib.hid h.lt
  have HF := Lib.hid h.in
  have hrg : w.heap.size ≠ gk := fun e => Nat.lt_irrefl _ (HLT.out _ (e ▸ HF.out.2))
  have hrx : w.heap.size ≠ gk + 1 := fun e => Nat.lt_irrefl _ (HLT.out _ (e ▸ HF.out.1))
  have KR1 := Lib.hid (blk_grown KR (grown_set W gk (who * 7 + 1) (.int .i64 ((i : Int) + 1 + 1))) hrg)
  have HX := Lib.hid xW
  clear h hE fz KR xW hpl
  have w1 : IntKind.i64.wrap (((i : Int) + 1) - 1) = (i : Int) := by rw [IntKind.wrap_i64]; omega
  have w2 : IntKind.i64.wrap ((i : Int) + 1 + 1) = ((i : Int) + 1 + 1) := by rw [IntKind.wrap_i64]; omega
  have w3 : IntKind.i64.wrap ((e : Int) + 1) = (e : Int) + 1 := by rw [IntKind.wrap_i64]; omega
  have w4 : IntKind.i64.wrap ((ep : Int) + 1) = (ep : Int) + 1 := by rw [IntKind.wrap_i64]; omega
  obtain ⟨p, hp⟩ : ∃ p, Hid ((d.wk i).p = p) := ⟨_, Lib.hid rfl⟩
  rw [hp.out] at hc
  have q1 : ((p : Int) != 0) = false := by rw [bne_eq_false_iff_eq]; omega
  clear hc
  have q3 : ¬ (i : Int) < 0 := by omega
  go_enter Try.func58, Try.ntmps58
  go_upto_region 1 with fail
  (try rw [hW])
  clear hW
  go_upto_region 3 with fail
  obtain ⟨U, hU⟩ : ∃ U, W.setCell ⟨gk, who * 7 + 1, none⟩ (.int .i64 ((i : Int) + 1 + 1)) = U := ⟨_, rfl⟩
  rw [hU] at P1 KR1
  have gU := Lib.hid (show GB w U F by rw [← hU]; exact (GB.of_ext F HX.out).set gk (who * 7 + 1) (.int .i64 ((i : Int) + 1 + 1)) (.inl HF.out.2))
  obtain ⟨B', c', u0, ux, uo, u1, u2, -, -, -, -, fz, -⟩ := P1.out.cells hw
  rw [show (d.put who { d.wk who with place := i + 1 + 1 }).ep = ep from hEp.out] at u0
  rw [dput_self] at uo u1 u2
  rw [show (DWk.mk (d.wk who).op (i + 1 + 1) (d.wk who).e (d.wk who).thing (d.wk who).pinned (d.wk who).held (d.wk who).p).e = e from hee.out] at u2
  (try rw [hU])
  clear c1 f1 hU
  obtain ⟨_, _, -, -, -, -, -, -, -, -, v6, -⟩ := P1.out.cells hi
  rw [(dput_p d who i { d.wk who with place := i + 1 + 1 } rfl).trans hp.out] at v6
  have hin : (i : Int) < (n : Int) := by omega
  have r0 := blk_cell KR1.out 0; have r1 := blk_cell KR1.out 1; have r2 := blk_cell KR1.out 2; have r3 := blk_cell KR1.out 3
  have z0 := blk_frozen KR1.out 0; have z1 := blk_frozen KR1.out 1; have z2 := blk_frozen KR1.out 2; have z3 := blk_frozen KR1.out 3
  clear fz
  go_wp2_with fail
  refine bodyPost_ret (results_cell_row (p := 4) rfl _ _ w.heap.size _ #[.bool false, .int .i64 0, .int .i64 0, .slice none 0 0] (0, 0) _ rfl (row4 KR1.out _ _ _ _) Try.underlying52 (by rfl) (by kernel_rfl)) rfl ?_
  exact dret_nil P1.out gU.out HLT.out _ _ _ _ false 0 0
set_option maxHeartbeats 2000000 in
set_option maxRecDepth 100000 in
theorem dadv_mine (w : World) (F : Nat → Prop) (gk n who i : Nat) (d : DSt) (h : DAt w F gk n d) (hw : who < n) (hn : n ≤ 64) (hpl : (d.wk who).place = i + 1) (he : (d.wk who).e ≤ 1000000) (hep : d.ep ≤ 1000000) (hi : i < n) (hc : (d.wk i).p = (d.wk who).e + 1) :
    Calls Try.prog 58 #[.pointer (some ⟨gk + 1, 0, none⟩), .pointer (some ⟨gk, who * 7, none⟩)] w (DRet w F gk n (d.put who { d.wk who with place := i + 1 + 1 }) false 0 0 []) := by
  obtain ⟨W, hW⟩ : ∃ W, w.alloc (.cells #[.bool false, .int .i64 0, .int .i64 0, .slice none 0 0] 52) = W := ⟨_, rfl⟩
  have xW : Ext w W := by rw [← hW]; exact (Ext.refl w).alloc _
  have KR := show W.heap[w.heap.size]? = some (.cells #[.bool false, .int .i64 0, .int .i64 0, .slice none 0 0] 52 (0, 0)) by rw [← hW]; exact blk_new w _
  have hE := h.ext xW
  obtain ⟨B, c, -, -, -, c1, -, -, -, -, -, fz, -⟩ := hE.cells hw
  have f1 := fz (who * 7 + 1)
  obtain ⟨e, hee⟩ : ∃ e, Hid ((d.wk who).e = e) := ⟨_, Lib.hid rfl⟩
  obtain ⟨ep, hEp⟩ : ∃ ep, Hid (d.ep = ep) := ⟨_, Lib.hid rfl⟩
  rw [hpl] at c1
  have c1 : W.cell? ⟨gk, who * 7 + 1, none⟩ = some (.int .i64 ((i : Int) + 1)) := c1
  rw [hee.out] at he hc
  rw [hEp.out] at hep
  have HPL := Lib.hid hpl
  have P1 := Lib.hid (hE.put1 hw 1 (.int .i64 ((i : Int) + 1 + 1)) { d.wk who with place := i + 1 + 1 } (by omega) (by omega) (fun v => rfl) rfl)
  have HLT := Lib.hid h.lt
  have HF := Lib.hid h.in
  have hrg : w.heap.size ≠ gk := fun e => Nat.lt_irrefl _ (HLT.out _ (e ▸ HF.out.2))
  have hrx : w.heap.size ≠ gk + 1 := fun e => Nat.lt_irrefl _ (HLT.out _ (e ▸ HF.out.1))
  have KR1 := Lib.hid (blk_grown KR (grown_set W gk (who * 7 + 1) (.int .i64 ((i : Int) + 1 + 1))) hrg)
  have HX := Lib.hid xW
  clear h hE fz KR xW hpl
  have w1 : IntKind.i64.wrap (((i : Int) + 1) - 1) = (i : Int) := by rw [IntKind.wrap_i64]; omega
  have w2 : IntKind.i64.wrap ((i : Int) + 1 + 1) = ((i : Int) + 1 + 1) := by rw [IntKind.wrap_i64]; omega
  have w3 : IntKind.i64.wrap ((e : Int) + 1) = (e : Int) + 1 := by rw [IntKind.wrap_i64]; omega
  have w4 : IntKind.i64.wrap ((ep : Int) + 1) = (ep : Int) + 1 := by rw [IntKind.wrap_i64]; omega
  obtain ⟨p, hp⟩ : ∃ p, Hid ((d.wk i).p = p) := ⟨_, Lib.hid rfl⟩
  rw [hp.out] at hc
  have q1 : ((p : Int) != 0) = true := by rw [bne_iff_ne]; omega
  have q2 : ((p : Int) != (e : Int) + 1) = false := by rw [bne_eq_false_iff_eq]; omega
  clear hc
  have q3 : ¬ (i : Int) < 0 := by omega
  go_enter Try.func58, Try.ntmps58
  go_upto_region 1 with fail
  (try rw [hW])
  clear hW
  go_upto_region 3 with fail
  obtain ⟨U, hU⟩ : ∃ U, W.setCell ⟨gk, who * 7 + 1, none⟩ (.int .i64 ((i : Int) + 1 + 1)) = U := ⟨_, rfl⟩
  rw [hU] at P1 KR1
  have gU := Lib.hid (show GB w U F by rw [← hU]; exact (GB.of_ext F HX.out).set gk (who * 7 + 1) (.int .i64 ((i : Int) + 1 + 1)) (.inl HF.out.2))
  obtain ⟨B', c', u0, ux, uo, u1, u2, -, -, -, -, fz, -⟩ := P1.out.cells hw
  rw [show (d.put who { d.wk who with place := i + 1 + 1 }).ep = ep from hEp.out] at u0
  rw [dput_self] at uo u1 u2
  rw [show (DWk.mk (d.wk who).op (i + 1 + 1) (d.wk who).e (d.wk who).thing (d.wk who).pinned (d.wk who).held (d.wk who).p).e = e from hee.out] at u2
  (try rw [hU])
  clear c1 f1 hU
  obtain ⟨_, _, -, -, -, -, -, -, -, -, v6, -⟩ := P1.out.cells hi
  rw [(dput_p d who i { d.wk who with place := i + 1 + 1 } rfl).trans hp.out] at v6
  have hin : (i : Int) < (n : Int) := by omega
  have r0 := blk_cell KR1.out 0; have r1 := blk_cell KR1.out 1; have r2 := blk_cell KR1.out 2; have r3 := blk_cell KR1.out 3
  have z0 := blk_frozen KR1.out 0; have z1 := blk_frozen KR1.out 1; have z2 := blk_frozen KR1.out 2; have z3 := blk_frozen KR1.out 3
  clear fz
  go_wp2_with fail
  refine bodyPost_ret (results_cell_row (p := 4) rfl _ _ w.heap.size _ #[.bool false, .int .i64 0, .int .i64 0, .slice none 0 0] (0, 0) _ rfl (row4 KR1.out _ _ _ _) Try.underlying52 (by rfl) (by kernel_rfl)) rfl ?_
  exact dret_nil P1.out gU.out HLT.out _ _ _ _ false 0 0
set_option maxHeartbeats 2000000 in
set_option maxRecDepth 100000 in
theorem dadv_moved (w : World) (F : Nat → Prop) (gk n who : Nat) (d : DSt) (h : DAt w F gk n d) (hw : who < n) (hn : n ≤ 64) (hpl : (d.wk who).place = n + 1) (he : (d.wk who).e ≤ 1000000) (hep : d.ep ≤ 1000000) (hc : d.ep ≠ (d.wk who).e) :
    Calls Try.prog 58 #[.pointer (some ⟨gk + 1, 0, none⟩), .pointer (some ⟨gk, who * 7, none⟩)] w (DRet w F gk n (d.put who { d.wk who with place := n + 1 + 1, op := 0 }) true 0 0 []) := by
  obtain ⟨W, hW⟩ : ∃ W, w.alloc (.cells #[.bool false, .int .i64 0, .int .i64 0, .slice none 0 0] 52) = W := ⟨_, rfl⟩
  have xW : Ext w W := by rw [← hW]; exact (Ext.refl w).alloc _
  have KR := show W.heap[w.heap.size]? = some (.cells #[.bool false, .int .i64 0, .int .i64 0, .slice none 0 0] 52 (0, 0)) by rw [← hW]; exact blk_new w _
  have hE := h.ext xW
  obtain ⟨B, c, -, -, -, c1, -, -, -, -, -, fz, -⟩ := hE.cells hw
  have f1 := fz (who * 7 + 1)
  obtain ⟨e, hee⟩ : ∃ e, Hid ((d.wk who).e = e) := ⟨_, Lib.hid rfl⟩
  obtain ⟨ep, hEp⟩ : ∃ ep, Hid (d.ep = ep) := ⟨_, Lib.hid rfl⟩
  rw [hpl] at c1
  have c1 : W.cell? ⟨gk, who * 7 + 1, none⟩ = some (.int .i64 ((n : Int) + 1)) := c1
  rw [hee.out] at he hc
  rw [hEp.out] at hep hc
  have HPL := Lib.hid hpl
  have P1 := Lib.hid (hE.put1 hw 1 (.int .i64 ((n : Int) + 1 + 1)) { d.wk who with place := n + 1 + 1 } (by omega) (by omega) (fun v => rfl) rfl)
  have HLT := Lib.hid h.lt
  have HF := Lib.hid h.in
  have hrg : w.heap.size ≠ gk := fun e => Nat.lt_irrefl _ (HLT.out _ (e ▸ HF.out.2))
  have hrx : w.heap.size ≠ gk + 1 := fun e => Nat.lt_irrefl _ (HLT.out _ (e ▸ HF.out.1))
  have KR1 := Lib.hid (blk_grown KR (grown_set W gk (who * 7 + 1) (.int .i64 ((n : Int) + 1 + 1))) hrg)
  have HX := Lib.hid xW
  clear h hE fz KR xW hpl
  have w1 : IntKind.i64.wrap (((n : Int) + 1) - 1) = (n : Int) := by rw [IntKind.wrap_i64]; omega
  have w2 : IntKind.i64.wrap ((n : Int) + 1 + 1) = ((n : Int) + 1 + 1) := by rw [IntKind.wrap_i64]; omega
  have w3 : IntKind.i64.wrap ((e : Int) + 1) = (e : Int) + 1 := by rw [IntKind.wrap_i64]; omega
  have w4 : IntKind.i64.wrap ((ep : Int) + 1) = (ep : Int) + 1 := by rw [IntKind.wrap_i64]; omega
  have q1 : ((ep : Int) != (e : Int)) = true := by rw [bne_iff_ne]; omega
  have q3 : ¬ (n : Int) < 0 := by omega
  clear hc
  go_enter Try.func58, Try.ntmps58
  go_upto_region 1 with fail
  (try rw [hW])
  clear hW
  go_upto_region 3 with fail
  obtain ⟨U, hU⟩ : ∃ U, W.setCell ⟨gk, who * 7 + 1, none⟩ (.int .i64 ((n : Int) + 1 + 1)) = U := ⟨_, rfl⟩
  rw [hU] at P1 KR1
  have gU := Lib.hid (show GB w U F by rw [← hU]; exact (GB.of_ext F HX.out).set gk (who * 7 + 1) (.int .i64 ((n : Int) + 1 + 1)) (.inl HF.out.2))
  obtain ⟨B', c', u0, ux, uo, u1, u2, -, -, -, -, fz, -⟩ := P1.out.cells hw
  rw [show (d.put who { d.wk who with place := n + 1 + 1 }).ep = ep from hEp.out] at u0
  rw [dput_self] at uo u1 u2
  rw [show (DWk.mk (d.wk who).op (n + 1 + 1) (d.wk who).e (d.wk who).thing (d.wk who).pinned (d.wk who).held (d.wk who).p).e = e from hee.out] at u2
  (try rw [hU])
  clear c1 f1 hU
  have hin : ¬ (n : Int) < (n : Int) := by omega
  go_upto_region 11 with fail
  go_quiet (fail)
  obtain ⟨V, hV⟩ : ∃ V, U.drewN nq = V := ⟨_, rfl⟩
  have xV : Ext U V := by rw [← hV]; exact (Ext.refl _).drewN nq
  have gV := Lib.hid (gU.out.ext xV)
  have PV := Lib.hid (P1.out.ext xV)
  have KV := Lib.hid (blk_ext KR1.out xV)
  have y0 := ext_cell xV u0
  (try rw [hV])
  have EN := Lib.hid (PV.out.dend hw { d.wk who with place := n + 1 + 1 } { d.wk who with place := n + 1 + 1, op := 0 } rfl d rfl 0 0)
  clear fz u0 ux uo u1 u2 xV hV
  go_wp2_with fail
  refine EN.out.mono ?_
  rintro e1 w3 hd
  have HD := Lib.hid hd
  obtain ⟨A, m, k, F', rfl, h1, h2, h3, h4, h5⟩ := hd
  have KR4 := Lib.hid (h2.blk KV.out (fun e => Nat.lt_irrefl _ (HLT.out _ e)))
  have r0 := blk_cell KR4.out 0; have r1 := blk_cell KR4.out 1; have r2 := blk_cell KR4.out 2; have r3 := blk_cell KR4.out 3
  have z0 := blk_frozen KR4.out 0; have z1 := blk_frozen KR4.out 1; have z2 := blk_frozen KR4.out 2; have z3 := blk_frozen KR4.out 3
  clear h1 h2 h3 h4 h5
  go_wp2_with fail
  refine bodyPost_ret (results_cell_row (p := 4) rfl _ _ w.heap.size _ #[.bool true, .int .i64 0, .int .i64 0, .slice A m k] (0, 0) _ rfl (row4 KR4.out _ _ _ _) Try.underlying52 (by rfl) (by kernel_rfl)) rfl ?_
  exact dret_put gV.out (blk_lt KV.out) HLT.out _ _ _ _ HD.out
set_option maxHeartbeats 2000000 in
set_option maxRecDepth 100000 in
theorem dadv_went (w : World) (F : Nat → Prop) (gk n who : Nat) (d : DSt) (h : DAt w F gk n d) (hw : who < n) (hn : n ≤ 64) (hpl : (d.wk who).place = n + 1) (he : (d.wk who).e ≤ 1000000) (hep : d.ep ≤ 1000000) (hc : d.ep = (d.wk who).e) :
    Calls Try.prog 58 #[.pointer (some ⟨gk + 1, 0, none⟩), .pointer (some ⟨gk, who * 7, none⟩)] w (DRet w F gk n { d.put who { d.wk who with place := n + 1 + 1, op := 0 } with ep := d.ep + 1 } true (0 : Int) ((d.ep : Int) + 1) []) := by
  obtain ⟨W, hW⟩ : ∃ W, w.alloc (.cells #[.bool false, .int .i64 0, .int .i64 0, .slice none 0 0] 52) = W := ⟨_, rfl⟩
  have xW : Ext w W := by rw [← hW]; exact (Ext.refl w).alloc _
  have KR := show W.heap[w.heap.size]? = some (.cells #[.bool false, .int .i64 0, .int .i64 0, .slice none 0 0] 52 (0, 0)) by rw [← hW]; exact blk_new w _
  have hE := h.ext xW
  obtain ⟨B, c, -, -, -, c1, -, -, -, -, -, fz, -⟩ := hE.cells hw
  have f1 := fz (who * 7 + 1)
  obtain ⟨e, hee⟩ : ∃ e, Hid ((d.wk who).e = e) := ⟨_, Lib.hid rfl⟩
  obtain ⟨ep, hEp⟩ : ∃ ep, Hid (d.ep = ep) := ⟨_, Lib.hid rfl⟩
  rw [hpl] at c1
  have c1 : W.cell? ⟨gk, who * 7 + 1, none⟩ = some (.int .i64 ((n : Int) + 1)) := c1
  rw [hee.out] at he hc
  rw [hEp.out] at hep hc ⊢
  have HPL := Lib.hid hpl
  have P1 := Lib.hid (hE.put1 hw 1 (.int .i64 ((n : Int) + 1 + 1)) { d.wk who with place := n + 1 + 1 } (by omega) (by omega) (fun v => rfl) rfl)
  have HLT := Lib.hid h.lt
  have HF := Lib.hid h.in
  have hrg : w.heap.size ≠ gk := fun e => Nat.lt_irrefl _ (HLT.out _ (e ▸ HF.out.2))
  have hrx : w.heap.size ≠ gk + 1 := fun e => Nat.lt_irrefl _ (HLT.out _ (e ▸ HF.out.1))
  have KR1 := Lib.hid (blk_grown KR (grown_set W gk (who * 7 + 1) (.int .i64 ((n : Int) + 1 + 1))) hrg)
  have HX := Lib.hid xW
  clear h hE fz KR xW hpl
  have w1 : IntKind.i64.wrap (((n : Int) + 1) - 1) = (n : Int) := by rw [IntKind.wrap_i64]; omega
  have w2 : IntKind.i64.wrap ((n : Int) + 1 + 1) = ((n : Int) + 1 + 1) := by rw [IntKind.wrap_i64]; omega
  have w4 : IntKind.i64.wrap ((ep : Int) + 1) = (ep : Int) + 1 := by rw [IntKind.wrap_i64]; omega
  obtain rfl : ep = e := hc
  have _h := hep
  clear _h
  have q3 : ¬ (n : Int) < 0 := by omega
  go_enter Try.func58, Try.ntmps58
  go_upto_region 1 with fail
  (try rw [hW])
  clear hW
  go_upto_region 3 with fail
  obtain ⟨U, hU⟩ : ∃ U, W.setCell ⟨gk, who * 7 + 1, none⟩ (.int .i64 ((n : Int) + 1 + 1)) = U := ⟨_, rfl⟩
  rw [hU] at P1 KR1
  have gU := Lib.hid (show GB w U F by rw [← hU]; exact (GB.of_ext F HX.out).set gk (who * 7 + 1) (.int .i64 ((n : Int) + 1 + 1)) (.inl HF.out.2))
  obtain ⟨B', c', u0, ux, uo, u1, u2, -, -, -, -, fz, -⟩ := P1.out.cells hw
  rw [show (d.put who { d.wk who with place := n + 1 + 1 }).ep = ep from hEp.out] at u0
  rw [dput_self] at uo u1 u2
  rw [show (DWk.mk (d.wk who).op (n + 1 + 1) (d.wk who).e (d.wk who).thing (d.wk who).pinned (d.wk who).held (d.wk who).p).e = ep from hee.out] at u2
  (try rw [hU])
  clear c1 f1 hU
  have hin : ¬ (n : Int) < (n : Int) := by omega
  go_upto_region 11 with fail
  go_quiet (fail)
  obtain ⟨V, hV⟩ : ∃ V, U.drewN nq = V := ⟨_, rfl⟩
  have xV : Ext U V := by rw [← hV]; exact (Ext.refl _).drewN nq
  have gV := Lib.hid (gU.out.ext xV)
  have PV := Lib.hid (P1.out.ext xV)
  have KV := Lib.hid (blk_ext KR1.out xV)
  have y0 := ext_cell xV u0
  (try rw [hV])
  have yf : V.frozen? ⟨gk + 1, 0, none⟩ = false := by
    obtain ⟨_, k1, _⟩ := PV.out
    exact blk_frozen k1 0
  have PE : DAt (V.setCell ⟨gk + 1, 0, none⟩ (.int .i64 ((ep : Int) + 1))) F gk n { d.put who { d.wk who with place := n + 1 + 1 } with ep := ep + 1 } := PV.out.putep (by omega) (ep + 1)
  have EN := Lib.hid (show Calls Try.prog 57 #[.pointer (some ⟨gk, who * 7, none⟩), .int .i64 0, .int .i64 ((ep : Int) + 1)] (V.setCell ⟨gk + 1, 0, none⟩ (.int .i64 ((ep : Int) + 1))) (DRet (V.setCell ⟨gk + 1, 0, none⟩ (.int .i64 ((ep : Int) + 1))) F gk n { d.put who { d.wk who with place := n + 1 + 1, op := 0 } with ep := ep + 1 } true 0 ((ep : Int) + 1) []) by
    have hh := dend_any _ F gk n who _ 0 ((ep : Int) + 1) PE hw
    rw [dput_ep] at hh
    rw [show ({ d.put who { d.wk who with place := n + 1 + 1 } with ep := ep + 1 } : DSt).wk who = { d.wk who with place := n + 1 + 1 } from dput_self d who _] at hh
    exact hh)
  have KE := Lib.hid (blk_grown KV.out (grown_set V (gk + 1) 0 (.int .i64 ((ep : Int) + 1))) hrx)
  clear fz u0 ux uo u1 u2 xV hV PE
  go_wp2_with fail
  refine EN.out.mono ?_
  rintro e1 w3 hd
  have HD := Lib.hid hd
  obtain ⟨A, m, k, F', rfl, h1, h2, h3, h4, h5⟩ := hd
  have KR4 := Lib.hid (h2.blk KE.out (fun e => Nat.lt_irrefl _ (HLT.out _ e)))
  have r0 := blk_cell KR4.out 0; have r1 := blk_cell KR4.out 1; have r2 := blk_cell KR4.out 2; have r3 := blk_cell KR4.out 3
  have z0 := blk_frozen KR4.out 0; have z1 := blk_frozen KR4.out 1; have z2 := blk_frozen KR4.out 2; have z3 := blk_frozen KR4.out 3
  clear h1 h2 h3 h4 h5
  go_wp2_with fail
  refine bodyPost_ret (results_cell_row (p := 4) rfl _ _ w.heap.size _ #[.bool true, .int .i64 0, .int .i64 ((ep : Int) + 1), .slice A m k] (0, 0) _ rfl (row4 KR4.out _ _ _ _) Try.underlying52 (by rfl) (by kernel_rfl)) rfl ?_
  exact dret_put (gV.out.set (gk + 1) _ _ (.inl HF.out.1)) (blk_lt KE.out) HLT.out _ _ _ _ HD.out
end Go.Proofs.Ytlgggeeflomelaa
