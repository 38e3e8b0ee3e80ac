/- spigotref13: pin, advance. -/
import Derived.Test.YtlgggeeflomelaaDcC
import Derived.BigQuiet
namespace Go.Proofs.Ytlgggeeflomelaa
open Go.RowKit

theorem DAt.dend {w : World} {F : Nat → Prop} {gk n who : Nat} {d : DSt} (h : DAt w F gk n d) (hw : who < n) (y z : DWk) (hz : z = { y with op := 0 }) (d' : DSt) (hd : d = d'.put who y) (er nu : Int) :
    Calls Try.prog 57 #[.pointer (some ⟨gk, who * 7, none⟩), .int .i64 er, .int .i64 nu] w (DRet w F gk n (d'.put who z) true er nu []) := by
  have := dend_any w F gk n who d er nu h hw
  rw [hd, dput_put, dput_self, ← hz] at this
  exact this
set_option maxHeartbeats 1000000 in
set_option maxRecDepth 100000 in
theorem dpin_even (w : World) (F : Nat → Prop) (gk n who : Nat) (d : DSt) (h : DAt w F gk n d) (hw : who < n) (hp : (d.wk who).place ≤ 1000000) (he : (d.wk who).e ≤ 1000000) (h0 : ((d.wk who).place + 1) % 2 = 0) :
    Calls Try.prog 56 #[.pointer (some ⟨gk + 1, 0, none⟩), .pointer (some ⟨gk, who * 7, none⟩)] w (DRet w F gk n (d.put who { d.wk who with place := (d.wk who).place + 1, p := (d.wk who).e + 1 }) false 0 0 []) := by
  obtain ⟨W, hW⟩ : ∃ W, w.alloc (.cells #[.bool false, .int .i64 0, .int .i64 0, .slice none 0 0] 52) = W := ⟨_, rfl⟩
  have xW : Ext w W := by rw [← hW]; exact (Ext.refl w).alloc _
  have KR := show W.heap[w.heap.size]? = some (.cells #[.bool false, .int .i64 0, .int .i64 0, .slice none 0 0] 52 (0, 0)) by rw [← hW]; exact blk_new w _
  have hE := h.ext xW
  obtain ⟨B, c, -, -, -, c1, c2, -, -, -, c6, fz, -⟩ := hE.cells hw
  have f1 := fz (who * 7 + 1); have f6 := fz (who * 7 + 6)
  obtain ⟨pl, hpl⟩ : ∃ pl, Hid ((d.wk who).place = pl) := ⟨_, Lib.hid rfl⟩
  obtain ⟨e, hee⟩ : ∃ e, Hid ((d.wk who).e = e) := ⟨_, Lib.hid rfl⟩
  rw [hpl.out] at c1 hp h0 ⊢
  rw [hee.out] at c2 he ⊢
  have w1 : IntKind.i64.wrap ((pl : Int) + 1) = (pl : Int) + 1 := by rw [IntKind.wrap_i64]; omega
  have w2 : IntKind.i64.wrap ((e : Int) + 1) = (e : Int) + 1 := by rw [IntKind.wrap_i64]; omega
  have hm : ((pl : Int) + 1) % 2 = 0 := by omega
  have P1 := hE.put1 hw 1 (.int .i64 ((pl : Int) + 1)) { d.wk who with place := pl + 1 } (by omega) (by omega) (fun v => rfl) rfl
  have P2 := P1.put1 hw 6 (.int .i64 ((e : Int) + 1)) { d.wk who with place := pl + 1, p := e + 1 } (by omega) (by omega) (fun v => by rw [dput_self]; rfl) (by rw [dput_self])
  rw [dput_put] at P2
  have P := Lib.hid P2
  have HLT := Lib.hid h.lt
  have HF := Lib.hid h.in.2
  have hrg : w.heap.size ≠ gk := fun e => Nat.lt_irrefl _ (HLT.out _ (e ▸ HF.out))
  have KR3 := Lib.hid (blk_grown (blk_grown KR (grown_set W gk (who * 7 + 1) (.int .i64 ((pl : Int) + 1))) hrg) (grown_set _ gk (who * 7 + 6) (.int .i64 ((e : Int) + 1))) hrg)
  have r0 := blk_cell KR3.out 0; have r1 := blk_cell KR3.out 1; have r2 := blk_cell KR3.out 2; have r3 := blk_cell KR3.out 3
  have z0 := blk_frozen KR3.out 0; have z1 := blk_frozen KR3.out 1; have z2 := blk_frozen KR3.out 2; have z3 := blk_frozen KR3.out 3
  have HX := Lib.hid xW
  clear h hE fz KR xW P1 P2 h0
  go_enter Try.func56, Try.ntmps56
  go_upto_region 1 with fail
  (try rw [hW])
  clear hW
  go_wp2_with fail
  refine bodyPost_ret (results_cell_row (p := 4) rfl _ _ w.heap.size _ #[.bool false, .int .i64 0, .int .i64 0, .slice none 0 0] (0, 0) _ rfl (row4 KR3.out _ _ _ _) Try.underlying52 (by rfl) (by kernel_rfl)) rfl ?_
  exact dret_nil P.out (((GB.of_ext F HX.out).set gk _ _ (.inl HF.out)).set gk _ _ (.inl HF.out)) HLT.out _ _ _ _ false 0 0
set_option maxHeartbeats 2000000 in
set_option maxRecDepth 100000 in
theorem dpin_miss (w : World) (F : Nat → Prop) (gk n who : Nat) (d : DSt) (h : DAt w F gk n d) (hw : who < n) (hp : (d.wk who).place ≤ 1000000) (h0 : ((d.wk who).place + 1) % 2 = 1) (hc : ¬ (1 < (d.wk who).place + 1 ∧ d.ep = (d.wk who).e)) :
    Calls Try.prog 56 #[.pointer (some ⟨gk + 1, 0, none⟩), .pointer (some ⟨gk, who * 7, none⟩)] w (DRet w F gk n (d.put who { d.wk who with place := (d.wk who).place + 1, e := d.ep }) false 0 0 []) := by
  obtain ⟨W, hW⟩ : ∃ W, w.alloc (.cells #[.bool false, .int .i64 0, .int .i64 0, .slice none 0 0] 52) = W := ⟨_, rfl⟩
  have xW : Ext w W := by rw [← hW]; exact (Ext.refl w).alloc _
  have KR := show W.heap[w.heap.size]? = some (.cells #[.bool false, .int .i64 0, .int .i64 0, .slice none 0 0] 52 (0, 0)) by rw [← hW]; exact blk_new w _
  have hE := h.ext xW
  obtain ⟨B, c, c0, -, -, c1, c2, -, -, -, -, fz, -⟩ := hE.cells hw
  have f1 := fz (who * 7 + 1)
  have f2 := fz (who * 7 + 2)
  have f4 := fz (who * 7 + 4)
  obtain ⟨pl, hpl⟩ : ∃ pl, Hid ((d.wk who).place = pl) := ⟨_, Lib.hid rfl⟩
  obtain ⟨e, hee⟩ : ∃ e, Hid ((d.wk who).e = e) := ⟨_, Lib.hid rfl⟩
  obtain ⟨ep, hep⟩ : ∃ ep, Hid (d.ep = ep) := ⟨_, Lib.hid rfl⟩
  rw [hpl.out] at c1 hp h0 hc ⊢
  rw [hee.out] at c2 hc
  rw [hep.out] at c0 hc ⊢
  have w1 : IntKind.i64.wrap ((pl : Int) + 1) = (pl : Int) + 1 := by rw [IntKind.wrap_i64]; omega
  have hm : ((pl : Int) + 1) % 2 = 1 := by omega
  have P1 := Lib.hid (hE.put1 hw 1 (.int .i64 ((pl : Int) + 1)) { d.wk who with place := pl + 1 } (by omega) (by omega) (fun v => rfl) rfl)
  have HLT := Lib.hid h.lt
  have HF := Lib.hid h.in.2
  have hrg : w.heap.size ≠ gk := fun e => Nat.lt_irrefl _ (HLT.out _ (e ▸ HF.out))
  have KR1 := Lib.hid (blk_grown KR (grown_set W gk (who * 7 + 1) (.int .i64 ((pl : Int) + 1))) hrg)
  have HX := Lib.hid xW
  have hn0 : ∀ x, (W.setCell ⟨gk, who * 7 + 1, none⟩ x).cell? ⟨gk + 1, 0, none⟩ = some (.int .i64 (ep : Int)) := fun x => GB.cell' ((GB.refl W (· = gk)).set gk _ x (.inl rfl)) c0 (by omega)
  clear h hE fz KR xW h0
  by_cases h1 : 1 < pl + 1
  · have q1 : decide ((1 : Int) < (pl : Int) + 1) = true := decide_eq_true (by omega)
    have q2 : ((ep : Int) == (e : Int)) = false := by rw [beq_eq_false_iff_ne]; omega
    clear h1
    clear hc
    go_enter Try.func56, Try.ntmps56
    go_upto_region 1 with fail
    (try rw [hW])
    clear hW
    go_upto_region 5 with fail
    go_quiet (fail)
    obtain ⟨U, hU⟩ : ∃ U, (W.setCell ⟨gk, who * 7 + 1, none⟩ (.int .i64 ((pl : Int) + 1))).drewN nq = U := ⟨_, rfl⟩
    have xU : Ext (W.setCell ⟨gk, who * 7 + 1, none⟩ (.int .i64 ((pl : Int) + 1))) U := by rw [← hU]; exact (Ext.refl _).drewN nq
    have gU := Lib.hid (((GB.of_ext F HX.out).set gk (who * 7 + 1) (.int .i64 ((pl : Int) + 1)) (.inl HF.out)).ext xU)
    have D := P1.out.ext xU
    obtain ⟨B', c', u0, -, -, u1, u2, -, -, -, -, fz, -⟩ := D.cells hw
    rw [show (d.put who { d.wk who with place := pl + 1 }).ep = ep from hep.out] at u0
    rw [dput_self] at u1 u2
    rw [show (DWk.mk (d.wk who).op (pl + 1) (d.wk who).e (d.wk who).thing (d.wk who).pinned (d.wk who).held (d.wk who).p).e = e from hee.out] at u2
    have KU := blk_ext KR1.out xU
    have P2 := D.put1 hw 2 (.int .i64 (ep : Int)) { d.wk who with place := pl + 1, e := ep } (by omega) (by omega) (fun v => by rw [dput_self]; rfl) (by rw [dput_self])
    rw [dput_put] at P2
    have P := Lib.hid P2
    have g2 := fz (who * 7 + 2)
    have KR3 := Lib.hid (blk_grown KU (grown_set U gk (who * 7 + 2) (.int .i64 (ep : Int))) hrg)
    have r0 := blk_cell KR3.out 0; have r1 := blk_cell KR3.out 1; have r2 := blk_cell KR3.out 2; have r3 := blk_cell KR3.out 3
    have z0 := blk_frozen KR3.out 0; have z1 := blk_frozen KR3.out 1; have z2 := blk_frozen KR3.out 2; have z3 := blk_frozen KR3.out 3
    (try rw [hU])
    clear c0 c1 c2 f1 f2 f4 hn0 xU D P2 KU fz hU
    go_wp2_with fail
    refine bodyPost_ret (results_cell_row (p := 4) rfl _ _ w.heap.size _ #[.bool false, .int .i64 0, .int .i64 0, .slice none 0 0] (0, 0) _ rfl (row4 KR3.out _ _ _ _) Try.underlying52 (by rfl) (by kernel_rfl)) rfl ?_
    exact dret_nil P.out (gU.out.set gk _ _ (.inl HF.out)) HLT.out _ _ _ _ false 0 0
  · have q1 : decide ((1 : Int) < (pl : Int) + 1) = false := decide_eq_false (by omega)
    clear h1
    clear hc
    go_enter Try.func56, Try.ntmps56
    go_upto_region 1 with fail
    (try rw [hW])
    clear hW
    go_upto_region 5 with fail
    go_quiet (fail)
    obtain ⟨U, hU⟩ : ∃ U, (W.setCell ⟨gk, who * 7 + 1, none⟩ (.int .i64 ((pl : Int) + 1))).drewN nq = U := ⟨_, rfl⟩
    have xU : Ext (W.setCell ⟨gk, who * 7 + 1, none⟩ (.int .i64 ((pl : Int) + 1))) U := by rw [← hU]; exact (Ext.refl _).drewN nq
    have gU := Lib.hid (((GB.of_ext F HX.out).set gk (who * 7 + 1) (.int .i64 ((pl : Int) + 1)) (.inl HF.out)).ext xU)
    have D := P1.out.ext xU
    obtain ⟨B', c', u0, -, -, u1, u2, -, -, -, -, fz, -⟩ := D.cells hw
    rw [show (d.put who { d.wk who with place := pl + 1 }).ep = ep from hep.out] at u0
    rw [dput_self] at u1 u2
    rw [show (DWk.mk (d.wk who).op (pl + 1) (d.wk who).e (d.wk who).thing (d.wk who).pinned (d.wk who).held (d.wk who).p).e = e from hee.out] at u2
    have KU := blk_ext KR1.out xU
    have P2 := D.put1 hw 2 (.int .i64 (ep : Int)) { d.wk who with place := pl + 1, e := ep } (by omega) (by omega) (fun v => by rw [dput_self]; rfl) (by rw [dput_self])
    rw [dput_put] at P2
    have P := Lib.hid P2
    have g2 := fz (who * 7 + 2)
    have KR3 := Lib.hid (blk_grown KU (grown_set U gk (who * 7 + 2) (.int .i64 (ep : Int))) hrg)
    have r0 := blk_cell KR3.out 0; have r1 := blk_cell KR3.out 1; have r2 := blk_cell KR3.out 2; have r3 := blk_cell KR3.out 3
    have z0 := blk_frozen KR3.out 0; have z1 := blk_frozen KR3.out 1; have z2 := blk_frozen KR3.out 2; have z3 := blk_frozen KR3.out 3
    (try rw [hU])
    clear c0 c1 c2 f1 f2 f4 hn0 xU D P2 KU fz hU
    go_wp2_with fail
    refine bodyPost_ret (results_cell_row (p := 4) rfl _ _ w.heap.size _ #[.bool false, .int .i64 0, .int .i64 0, .slice none 0 0] (0, 0) _ rfl (row4 KR3.out _ _ _ _) Try.underlying52 (by rfl) (by kernel_rfl)) rfl ?_
    exact dret_nil P.out (gU.out.set gk _ _ (.inl HF.out)) HLT.out _ _ _ _ false 0 0
set_option maxHeartbeats 2000000 in
set_option maxRecDepth 100000 in
theorem dpin_hit (w : World) (F : Nat → Prop) (gk n who : Nat) (d : DSt) (h : DAt w F gk n d) (hw : who < n) (hp : (d.wk who).place ≤ 1000000) (h0 : ((d.wk who).place + 1) % 2 = 1) (hc : 1 < (d.wk who).place + 1 ∧ d.ep = (d.wk who).e) :
    Calls Try.prog 56 #[.pointer (some ⟨gk + 1, 0, none⟩), .pointer (some ⟨gk, who * 7, none⟩)] w (DRet w F gk n (d.put who { d.wk who with place := (d.wk who).place + 1, pinned := true, op := 0 }) true (0 : Int) ((d.wk who).e : Int) []) := by
  obtain ⟨W, hW⟩ : ∃ W, w.alloc (.cells #[.bool false, .int .i64 0, .int .i64 0, .slice none 0 0] 52) = W := ⟨_, rfl⟩
  have xW : Ext w W := by rw [← hW]; exact (Ext.refl w).alloc _
  have KR := show W.heap[w.heap.size]? = some (.cells #[.bool false, .int .i64 0, .int .i64 0, .slice none 0 0] 52 (0, 0)) by rw [← hW]; exact blk_new w _
  have hE := h.ext xW
  obtain ⟨B, c, c0, -, -, c1, c2, -, -, -, -, fz, -⟩ := hE.cells hw
  have f1 := fz (who * 7 + 1)
  have f2 := fz (who * 7 + 2)
  have f4 := fz (who * 7 + 4)
  obtain ⟨pl, hpl⟩ : ∃ pl, Hid ((d.wk who).place = pl) := ⟨_, Lib.hid rfl⟩
  obtain ⟨e, hee⟩ : ∃ e, Hid ((d.wk who).e = e) := ⟨_, Lib.hid rfl⟩
  obtain ⟨ep, hep⟩ : ∃ ep, Hid (d.ep = ep) := ⟨_, Lib.hid rfl⟩
  rw [hpl.out] at c1 hp h0 hc ⊢
  rw [hee.out] at c2 hc ⊢
  rw [hep.out] at c0 hc
  have w1 : IntKind.i64.wrap ((pl : Int) + 1) = (pl : Int) + 1 := by rw [IntKind.wrap_i64]; omega
  have hm : ((pl : Int) + 1) % 2 = 1 := by omega
  have P1 := Lib.hid (hE.put1 hw 1 (.int .i64 ((pl : Int) + 1)) { d.wk who with place := pl + 1 } (by omega) (by omega) (fun v => rfl) rfl)
  have HLT := Lib.hid h.lt
  have HF := Lib.hid h.in.2
  have hrg : w.heap.size ≠ gk := fun e => Nat.lt_irrefl _ (HLT.out _ (e ▸ HF.out))
  have KR1 := Lib.hid (blk_grown KR (grown_set W gk (who * 7 + 1) (.int .i64 ((pl : Int) + 1))) hrg)
  have HX := Lib.hid xW
  have hn0 : ∀ x, (W.setCell ⟨gk, who * 7 + 1, none⟩ x).cell? ⟨gk + 1, 0, none⟩ = some (.int .i64 (ep : Int)) := fun x => GB.cell' ((GB.refl W (· = gk)).set gk _ x (.inl rfl)) c0 (by omega)
  clear h hE fz KR xW h0
  have q1 : decide ((1 : Int) < (pl : Int) + 1) = true := decide_eq_true (by omega)
  obtain ⟨_, rfl⟩ : 1 < pl + 1 ∧ ep = e := hc
  ·
    go_enter Try.func56, Try.ntmps56
    go_upto_region 1 with fail
    (try rw [hW])
    clear hW
    go_upto_region 5 with fail
    go_quiet (fail)
    obtain ⟨U, hU⟩ : ∃ U, (W.setCell ⟨gk, who * 7 + 1, none⟩ (.int .i64 ((pl : Int) + 1))).drewN nq = U := ⟨_, rfl⟩
    have xU : Ext (W.setCell ⟨gk, who * 7 + 1, none⟩ (.int .i64 ((pl : Int) + 1))) U := by rw [← hU]; exact (Ext.refl _).drewN nq
    have gU := Lib.hid (((GB.of_ext F HX.out).set gk (who * 7 + 1) (.int .i64 ((pl : Int) + 1)) (.inl HF.out)).ext xU)
    have D := P1.out.ext xU
    obtain ⟨B', c', u0, -, -, u1, u2, -, u4, -, -, fz, -⟩ := D.cells hw
    rw [show (d.put who { d.wk who with place := pl + 1 }).ep = ep from hep.out] at u0
    rw [dput_self] at u1 u2
    rw [show (DWk.mk (d.wk who).op (pl + 1) (d.wk who).e (d.wk who).thing (d.wk who).pinned (d.wk who).held (d.wk who).p).e = ep from hee.out] at u2
    have KU := blk_ext KR1.out xU
    have P2 := D.put1 hw 4 (.bool true) { d.wk who with place := pl + 1, pinned := true } (by omega) (by omega) (fun v => by rw [dput_self]; rfl) (by rw [dput_self])
    rw [dput_put] at P2
    have EN := Lib.hid (P2.dend hw { d.wk who with place := pl + 1, pinned := true } { d.wk who with place := pl + 1, pinned := true, op := 0 } rfl d rfl 0 (ep : Int))
    have g2 := fz (who * 7 + 4)
    have KR3 := Lib.hid (blk_grown KU (grown_set U gk (who * 7 + 4) (.bool true)) hrg)
    (try rw [hU])
    clear c0 c1 c2 f1 f2 f4 hn0 xU D P2 KU fz hU
    go_wp2_with fail
    refine EN.out.mono ?_
    rintro e1 w3 hd
    have HD := Lib.hid hd
    obtain ⟨A, m, k, F', rfl, h1, h2, h3, h4, h5⟩ := hd
    have KR4 := Lib.hid (h2.blk KR3.out (fun e => Nat.lt_irrefl _ (HLT.out _ e)))
    have r0 := blk_cell KR4.out 0; have r1 := blk_cell KR4.out 1; have r2 := blk_cell KR4.out 2; have r3 := blk_cell KR4.out 3
    have z0 := blk_frozen KR4.out 0; have z1 := blk_frozen KR4.out 1; have z2 := blk_frozen KR4.out 2; have z3 := blk_frozen KR4.out 3
    clear h1 h2 h3 h4 h5
    go_wp2_with fail
    refine bodyPost_ret (results_cell_row (p := 4) rfl _ _ w.heap.size _ #[.bool true, .int .i64 0, .int .i64 (ep : Int), .slice A m k] (0, 0) _ rfl (row4 KR4.out _ _ _ _) Try.underlying52 (by rfl) (by kernel_rfl)) rfl ?_
    exact dret_put (gU.out.set gk _ _ (.inl HF.out)) (blk_lt KR3.out) HLT.out _ _ _ _ HD.out
end Go.Proofs.Ytlgggeeflomelaa
