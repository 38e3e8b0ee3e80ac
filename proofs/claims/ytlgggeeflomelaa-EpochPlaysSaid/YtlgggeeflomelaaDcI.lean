/- spigotref13: DocStep. Printed by gen_dci.py. -/
import Derived.Test.YtlgggeeflomelaaDcH
namespace Go.Proofs.Ytlgggeeflomelaa
open Go.RowKit

/-- what DocStep answers -/
def DStepR (w : World) (F : Nat → Prop) (gk n : Nat) (d : DSt) (done : Bool) (er nu : Int) (xs : List Int) (last : Int) (e : Ending) (w' : World) : Prop :=
  ∃ A m c F', e = .returned (.tuple #[.agg #[.bool done, .int .i64 er, .int .i64 nu, .slice A m c], .int .i64 last]) ∧ DAt w' F' gk n d ∧ GB w w' F ∧ (∀ i, F i → F' i) ∧ (∀ i, F' i → F i ∨ w.heap.size ≤ i) ∧ ThOk w w' F' A m c xs
theorem dstep_of {w w' : World} {F : Nat → Prop} {gk n : Nat} {d : DSt} {done : Bool} {er nu : Int} {xs : List Int} {A : Option Addr} {m c : Nat} (last : Int) (h : DRet w F gk n d done er nu xs (.returned (.agg #[.bool done, .int .i64 er, .int .i64 nu, .slice A m c])) w') :
    DStepR w F gk n d done er nu xs last (.returned (.tuple #[.agg #[.bool done, .int .i64 er, .int .i64 nu, .slice A m c], .int .i64 last])) w' := by
  obtain ⟨A', m', c', F', e, h⟩ := h
  simp at e
  obtain ⟨rfl, rfl, rfl⟩ := e
  exact ⟨_, _, _, F', rfl, h⟩
set_option maxHeartbeats 1000000 in
set_option maxRecDepth 100000 in
theorem dstep_pin (w : World) (F : Nat → Prop) (gk n who : Nat) (d d' : DSt) (done : Bool) (er nu : Int) (xs : List Int) (h : DAt w F gk n d) (hw : who < n) (ho : (d.wk who).op = 1) (HC : ∀ u, DAt u F gk n d → Calls Try.prog 56 #[.pointer (some ⟨gk + 1, 0, none⟩), .pointer (some ⟨gk, who * 7, none⟩)] u (DRet u F gk n d' done er nu xs)) :
    Calls Try.prog 25 #[.pointer (some ⟨gk + 1, 0, none⟩), .int .i64 (who : Int)] w (DStepR w F gk n d' done er nu xs 0) := by
  obtain ⟨V, hV⟩ : ∃ V, w.alloc (.cells #[.bool false, .int .i64 0, .int .i64 0, .slice none 0 0] 52) = V := ⟨_, rfl⟩
  have xV : Ext w V := by rw [← hV]; exact (Ext.refl w).alloc _
  have KR := Lib.hid (show V.heap[w.heap.size]? = some (.cells #[.bool false, .int .i64 0, .int .i64 0, .slice none 0 0] 52 (0, 0)) by rw [← hV]; exact blk_new w _)
  have DV := Lib.hid (h.ext xV)
  have HLT := Lib.hid h.lt
  have HF := Lib.hid h.in
  have XV := Lib.hid xV
  obtain ⟨B, c, c0, x1, co, -, -, -, c4, -, c6, fz, -⟩ := DV.out.cells hw
  rw [ho] at co
  have TH := Lib.hid (dthere_ok V gk n who x1 hw)
  have CA := Lib.hid (HC V DV.out)
  clear HC
  clear h fz xV ho
  go_enter Try.func25, Try.ntmps25
  go_upto_region 1 with fail
  (try rw [hV])
  clear hV
  go_wp2_with fail
  refine TH.out.mono ?_
  rintro e1 w1 ⟨rfl, rfl⟩
  go_wp2_with fail
  refine CA.out.mono ?_
  rintro e1 w3 hd
  have HD := Lib.hid hd
  obtain ⟨A, m, k, F', rfl, h1, h2, h3, h4, h5⟩ := hd
  have KR4 := Lib.hid (h2.blk KR.out (fun e => Nat.lt_irrefl _ (HLT.out _ e)))
  have r0 := blk_cell KR4.out 0; have r1 := blk_cell KR4.out 1; have r2 := blk_cell KR4.out 2; have r3 := blk_cell KR4.out 3
  have z0 := blk_frozen KR4.out 0; have z1 := blk_frozen KR4.out 1; have z2 := blk_frozen KR4.out 2; have z3 := blk_frozen KR4.out 3
  clear h1 h2 h3 h4 h5 c0 x1 co c4 c6
  go_wp2_with fail
  refine bodyPost_ret (results_row_tmp (p := 4) (u := 5) rfl _ _ w.heap.size _ #[.bool done, .int .i64 er, .int .i64 nu, .slice A m k] (0, 0) _ rfl (row4 KR4.out _ _ _ _) Try.underlying52 (by rfl) (by kernel_rfl)) rfl ?_
  exact dstep_of 0 (dret_put (GB.of_ext F XV.out) (blk_lt KR.out) HLT.out _ _ _ _ HD.out)
set_option maxHeartbeats 1000000 in
set_option maxRecDepth 100000 in
theorem dstep_adv (w : World) (F : Nat → Prop) (gk n who : Nat) (d d' : DSt) (done : Bool) (er nu : Int) (xs : List Int) (h : DAt w F gk n d) (hw : who < n) (ho : (d.wk who).op = 4) (HC : ∀ u, DAt u F gk n d → Calls Try.prog 58 #[.pointer (some ⟨gk + 1, 0, none⟩), .pointer (some ⟨gk, who * 7, none⟩)] u (DRet u F gk n d' done er nu xs)) :
    Calls Try.prog 25 #[.pointer (some ⟨gk + 1, 0, none⟩), .int .i64 (who : Int)] w (DStepR w F gk n d' done er nu xs 0) := by
  obtain ⟨V, hV⟩ : ∃ V, w.alloc (.cells #[.bool false, .int .i64 0, .int .i64 0, .slice none 0 0] 52) = V := ⟨_, rfl⟩
  have xV : Ext w V := by rw [← hV]; exact (Ext.refl w).alloc _
  have KR := Lib.hid (show V.heap[w.heap.size]? = some (.cells #[.bool false, .int .i64 0, .int .i64 0, .slice none 0 0] 52 (0, 0)) by rw [← hV]; exact blk_new w _)
  have DV := Lib.hid (h.ext xV)
  have HLT := Lib.hid h.lt
  have HF := Lib.hid h.in
  have XV := Lib.hid xV
  obtain ⟨B, c, c0, x1, co, -, -, -, c4, -, c6, fz, -⟩ := DV.out.cells hw
  rw [ho] at co
  have TH := Lib.hid (dthere_ok V gk n who x1 hw)
  have CA := Lib.hid (HC V DV.out)
  clear HC
  clear h fz xV ho
  go_enter Try.func25, Try.ntmps25
  go_upto_region 1 with fail
  (try rw [hV])
  clear hV
  go_wp2_with fail
  refine TH.out.mono ?_
  rintro e1 w1 ⟨rfl, rfl⟩
  go_wp2_with fail
  refine CA.out.mono ?_
  rintro e1 w3 hd
  have HD := Lib.hid hd
  obtain ⟨A, m, k, F', rfl, h1, h2, h3, h4, h5⟩ := hd
  have KR4 := Lib.hid (h2.blk KR.out (fun e => Nat.lt_irrefl _ (HLT.out _ e)))
  have r0 := blk_cell KR4.out 0; have r1 := blk_cell KR4.out 1; have r2 := blk_cell KR4.out 2; have r3 := blk_cell KR4.out 3
  have z0 := blk_frozen KR4.out 0; have z1 := blk_frozen KR4.out 1; have z2 := blk_frozen KR4.out 2; have z3 := blk_frozen KR4.out 3
  clear h1 h2 h3 h4 h5 c0 x1 co c4 c6
  go_wp2_with fail
  refine bodyPost_ret (results_row_tmp (p := 4) (u := 5) rfl _ _ w.heap.size _ #[.bool done, .int .i64 er, .int .i64 nu, .slice A m k] (0, 0) _ rfl (row4 KR4.out _ _ _ _) Try.underlying52 (by rfl) (by kernel_rfl)) rfl ?_
  exact dstep_of 0 (dret_put (GB.of_ext F XV.out) (blk_lt KR.out) HLT.out _ _ _ _ HD.out)
set_option maxHeartbeats 1000000 in
set_option maxRecDepth 100000 in
theorem dstep_coll (w : World) (F : Nat → Prop) (gk n who : Nat) (d d' : DSt) (done : Bool) (er nu : Int) (xs : List Int) (h : DAt w F gk n d) (hw : who < n) (ho : (d.wk who).op = 5) (HC : ∀ u, DAt u F gk n d → Calls Try.prog 59 #[.pointer (some ⟨gk + 1, 0, none⟩), .pointer (some ⟨gk, who * 7, none⟩)] u (DRet u F gk n d' done er nu xs)) :
    Calls Try.prog 25 #[.pointer (some ⟨gk + 1, 0, none⟩), .int .i64 (who : Int)] w (DStepR w F gk n d' done er nu xs 0) := by
  obtain ⟨V, hV⟩ : ∃ V, w.alloc (.cells #[.bool false, .int .i64 0, .int .i64 0, .slice none 0 0] 52) = V := ⟨_, rfl⟩
  have xV : Ext w V := by rw [← hV]; exact (Ext.refl w).alloc _
  have KR := Lib.hid (show V.heap[w.heap.size]? = some (.cells #[.bool false, .int .i64 0, .int .i64 0, .slice none 0 0] 52 (0, 0)) by rw [← hV]; exact blk_new w _)
  have DV := Lib.hid (h.ext xV)
  have HLT := Lib.hid h.lt
  have HF := Lib.hid h.in
  have XV := Lib.hid xV
  obtain ⟨B, c, c0, x1, co, -, -, -, c4, -, c6, fz, -⟩ := DV.out.cells hw
  rw [ho] at co
  have TH := Lib.hid (dthere_ok V gk n who x1 hw)
  have CA := Lib.hid (HC V DV.out)
  clear HC
  clear h fz xV ho
  go_enter Try.func25, Try.ntmps25
  go_upto_region 1 with fail
  (try rw [hV])
  clear hV
  go_wp2_with fail
  refine TH.out.mono ?_
  rintro e1 w1 ⟨rfl, rfl⟩
  go_wp2_with fail
  refine CA.out.mono ?_
  rintro e1 w3 hd
  have HD := Lib.hid hd
  obtain ⟨A, m, k, F', rfl, h1, h2, h3, h4, h5⟩ := hd
  have KR4 := Lib.hid (h2.blk KR.out (fun e => Nat.lt_irrefl _ (HLT.out _ e)))
  have r0 := blk_cell KR4.out 0; have r1 := blk_cell KR4.out 1; have r2 := blk_cell KR4.out 2; have r3 := blk_cell KR4.out 3
  have z0 := blk_frozen KR4.out 0; have z1 := blk_frozen KR4.out 1; have z2 := blk_frozen KR4.out 2; have z3 := blk_frozen KR4.out 3
  clear h1 h2 h3 h4 h5 c0 x1 co c4 c6
  go_wp2_with fail
  refine bodyPost_ret (results_row_tmp (p := 4) (u := 5) rfl _ _ w.heap.size _ #[.bool done, .int .i64 er, .int .i64 nu, .slice A m k] (0, 0) _ rfl (row4 KR4.out _ _ _ _) Try.underlying52 (by rfl) (by kernel_rfl)) rfl ?_
  exact dstep_of 0 (dret_put (GB.of_ext F XV.out) (blk_lt KR.out) HLT.out _ _ _ _ HD.out)
set_option maxHeartbeats 1000000 in
set_option maxRecDepth 100000 in
theorem dstep_unpin (w : World) (F : Nat → Prop) (gk n who : Nat) (d : DSt) (h : DAt w F gk n d) (hw : who < n) (ho : (d.wk who).op = 2) :
    Calls Try.prog 25 #[.pointer (some ⟨gk + 1, 0, none⟩), .int .i64 (who : Int)] w (DStepR w F gk n (d.put who { d.wk who with p := 0, pinned := false, op := 0 }) true 0 0 [] 0) := by
  obtain ⟨V, hV⟩ : ∃ V, w.alloc (.cells #[.bool false, .int .i64 0, .int .i64 0, .slice none 0 0] 52) = V := ⟨_, rfl⟩
  have xV : Ext w V := by rw [← hV]; exact (Ext.refl w).alloc _
  have KR := Lib.hid (show V.heap[w.heap.size]? = some (.cells #[.bool false, .int .i64 0, .int .i64 0, .slice none 0 0] 52 (0, 0)) by rw [← hV]; exact blk_new w _)
  have DV := Lib.hid (h.ext xV)
  have HLT := Lib.hid h.lt
  have HF := Lib.hid h.in
  have XV := Lib.hid xV
  obtain ⟨B, c, c0, x1, co, -, -, -, c4, -, c6, fz, -⟩ := DV.out.cells hw
  rw [ho] at co
  have TH := Lib.hid (dthere_ok V gk n who x1 hw)
  have f4 := fz (who * 7 + 4)
  have f6 := fz (who * 7 + 6)
  have P1 := DV.out.put1 hw 6 (.int .i64 0) { d.wk who with p := 0 } (by omega) (by omega) (fun v => rfl) rfl
  have P2 := P1.put1 hw 4 (.bool false) { d.wk who with p := 0, pinned := false } (by omega) (by omega) (fun v => by rw [dput_self]; rfl) (by rw [dput_self])
  rw [dput_put] at P2
  have EN := Lib.hid (P2.dend hw { d.wk who with p := 0, pinned := false } { d.wk who with p := 0, pinned := false, op := 0 } rfl d rfl 0 0)
  have hrg : w.heap.size ≠ gk := fun e => Nat.lt_irrefl _ (HLT.out _ (e ▸ HF.out.2))
  have KE := Lib.hid (blk_grown (blk_grown KR.out (grown_set V gk (who * 7 + 6) (.int .i64 0)) hrg) (grown_set _ gk (who * 7 + 4) (.bool false)) hrg)
  clear P1 P2
  clear h fz xV ho
  go_enter Try.func25, Try.ntmps25
  go_upto_region 1 with fail
  (try rw [hV])
  clear hV
  go_wp2_with fail
  refine TH.out.mono ?_
  rintro e1 w1 ⟨rfl, rfl⟩
  go_wp2_with fail
  refine EN.out.mono ?_
  rintro e1 w3 hd
  have HD := Lib.hid hd
  obtain ⟨A, m, k, F', rfl, h1, h2, h3, h4, h5⟩ := hd
  have KR4 := Lib.hid (h2.blk KE.out (fun e => Nat.lt_irrefl _ (HLT.out _ e)))
  have r0 := blk_cell KR4.out 0; have r1 := blk_cell KR4.out 1; have r2 := blk_cell KR4.out 2; have r3 := blk_cell KR4.out 3
  have z0 := blk_frozen KR4.out 0; have z1 := blk_frozen KR4.out 1; have z2 := blk_frozen KR4.out 2; have z3 := blk_frozen KR4.out 3
  clear h1 h2 h3 h4 h5 c0 x1 co c4 c6
  go_wp2_with fail
  refine bodyPost_ret (results_row_tmp (p := 4) (u := 5) rfl _ _ w.heap.size _ #[.bool true, .int .i64 0, .int .i64 0, .slice A m k] (0, 0) _ rfl (row4 KR4.out _ _ _ _) Try.underlying52 (by rfl) (by kernel_rfl)) rfl ?_
  exact dstep_of 0 (dret_put (((GB.of_ext F XV.out).set gk _ _ (.inl HF.out.2)).set gk _ _ (.inl HF.out.2)) (blk_lt KE.out) HLT.out _ _ _ _ HD.out)
set_option maxHeartbeats 1000000 in
set_option maxRecDepth 100000 in
theorem dstep_idle (w : World) (F : Nat → Prop) (gk n who : Nat) (d : DSt) (h : DAt w F gk n d) (hw : who < n) (ho : (d.wk who).op = 0) :
    Calls Try.prog 25 #[.pointer (some ⟨gk + 1, 0, none⟩), .int .i64 (who : Int)] w (DStepR w F gk n d false 0 0 [] 7) := by
  obtain ⟨V, hV⟩ : ∃ V, w.alloc (.cells #[.bool false, .int .i64 0, .int .i64 0, .slice none 0 0] 52) = V := ⟨_, rfl⟩
  have xV : Ext w V := by rw [← hV]; exact (Ext.refl w).alloc _
  have KR := Lib.hid (show V.heap[w.heap.size]? = some (.cells #[.bool false, .int .i64 0, .int .i64 0, .slice none 0 0] 52 (0, 0)) by rw [← hV]; exact blk_new w _)
  have DV := Lib.hid (h.ext xV)
  have HLT := Lib.hid h.lt
  have HF := Lib.hid h.in
  have XV := Lib.hid xV
  obtain ⟨B, c, c0, x1, co, -, -, -, c4, -, c6, fz, -⟩ := DV.out.cells hw
  rw [ho] at co
  have TH := Lib.hid (dthere_ok V gk n who x1 hw)
  have r0 := blk_cell KR.out 0; have r1 := blk_cell KR.out 1; have r2 := blk_cell KR.out 2; have r3 := blk_cell KR.out 3
  have z0 := blk_frozen KR.out 0; have z1 := blk_frozen KR.out 1; have z2 := blk_frozen KR.out 2; have z3 := blk_frozen KR.out 3
  clear h fz xV ho
  go_enter Try.func25, Try.ntmps25
  go_upto_region 1 with fail
  (try rw [hV])
  clear hV
  go_wp2_with fail
  refine TH.out.mono ?_
  rintro e1 w1 ⟨rfl, rfl⟩
  go_wp2_with fail
  refine bodyPost_ret (results_row_tmp (p := 4) (u := 5) rfl _ _ w.heap.size _ #[.bool false, .int .i64 0, .int .i64 0, .slice none 0 0] (0, 0) _ rfl (row4 KR.out _ _ _ _) Try.underlying52 (by rfl) (by kernel_rfl)) rfl ?_
  exact dstep_of 7 (dret_nil DV.out (GB.of_ext F XV.out) HLT.out _ _ _ _ false 0 0)
set_option maxRecDepth 100000 in
theorem dstep_bad (w : World) (F : Nat → Prop) (gk n : Nat) (who : Int) (d : DSt) (h : DAt w F gk n d) (hb : ¬ (0 ≤ who ∧ who < (n : Int))) :
    Calls Try.prog 25 #[.pointer (some ⟨gk + 1, 0, none⟩), .int .i64 who] w (DStepR w F gk n d false 0 0 [] 1) := by
  obtain ⟨V, hV⟩ : ∃ V, w.alloc (.cells #[.bool false, .int .i64 0, .int .i64 0, .slice none 0 0] 52) = V := ⟨_, rfl⟩
  have xV : Ext w V := by rw [← hV]; exact (Ext.refl w).alloc _
  have KR := Lib.hid (show V.heap[w.heap.size]? = some (.cells #[.bool false, .int .i64 0, .int .i64 0, .slice none 0 0] 52 (0, 0)) by rw [← hV]; exact blk_new w _)
  have DV := Lib.hid (h.ext xV)
  have HLT := Lib.hid h.lt
  have XV := Lib.hid xV
  have TH := Lib.hid (dthere_bad V gk n who DV.out.x1 hb)
  have r0 := blk_cell KR.out 0; have r1 := blk_cell KR.out 1; have r2 := blk_cell KR.out 2; have r3 := blk_cell KR.out 3
  have z0 := blk_frozen KR.out 0; have z1 := blk_frozen KR.out 1; have z2 := blk_frozen KR.out 2; have z3 := blk_frozen KR.out 3
  clear h xV hb
  go_enter Try.func25, Try.ntmps25
  go_upto_region 1 with fail
  (try rw [hV])
  clear hV
  go_wp2_with fail
  refine TH.out.mono ?_
  rintro e1 w1 ⟨rfl, rfl⟩
  go_wp2_with fail
  refine bodyPost_ret (results_row_tmp (p := 4) (u := 5) rfl _ _ w.heap.size _ #[.bool false, .int .i64 0, .int .i64 0, .slice none 0 0] (0, 0) _ rfl (row4 KR.out _ _ _ _) Try.underlying52 (by rfl) (by kernel_rfl)) rfl ?_
  exact dstep_of 1 (dret_nil DV.out (GB.of_ext F XV.out) HLT.out _ _ _ _ false 0 0)
end Go.Proofs.Ytlgggeeflomelaa
