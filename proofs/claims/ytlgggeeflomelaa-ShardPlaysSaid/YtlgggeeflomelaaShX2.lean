/- spigotref14: DocStep, a call that reads the version. Printed by gen_shx.py. -/
import Derived.Test.YtlgggeeflomelaaShX
namespace Go.Proofs.Ytlgggeeflomelaa
open Go.RowKit

set_option maxHeartbeats 4000000 in
set_option maxRecDepth 100000 in
theorem dstep_b2n (w : World) (G : Nat → Prop) (gk who : Nat) (key : List Nat) (val : Int) (s : SSt) (h : DocAt w G gk s) (hi : SInv s) (hw : who < 64) (he : s.call who = .begun 2 key val) (hh : hasE s.lst key = false) (ml : List Ent) (nu : Int) (hfull : s.lst.length ≠ 4096) :
    Calls Try.prog 43 #[.pointer (some ⟨gk, 0, none⟩), .int .i64 (who : Int)] w (DStepR w G gk (s.put who (.swap 2 key val s.ver ml nu), ⟨false, 0, 0⟩)) := by
  have a1 : ¬ (who : Int) < 0 := by omega
  have a2 : ¬ (63 : Int) < (who : Int) := by omega
  have a3 : (0 : Int) ≤ (who : Int) := by omega
  have a4 : (who : Int) < 64 := by omega
  obtain ⟨W, hW⟩ : ∃ W, w.alloc (.cells #[.bool false, .int .i64 0, .int .i64 0] 86) = W := ⟨_, rfl⟩
  have xW : Ext w W := by rw [← hW]; exact (Ext.refl w).alloc _
  have KZ := Lib.hid (show W.heap[w.heap.size]? = some (.cells #[.bool false, .int .i64 0, .int .i64 0] 86 (0, 0)) by rw [← hW]; exact blk_new w _)
  have DW := Lib.hid (h.ext xW); have H := Lib.hid h; have XW := Lib.hid xW; have HI := Lib.hid hi
  have hask : AskOk 2 key val := by have := hi.2.2 who; rw [he] at this; exact this
  have hgk : gk < w.heap.size := h.2.2.2.2.2 gk h.2.2.2.2.1
  obtain ⟨d1, d2, ⟨LA, lc, lks, d3, d4, d5, d6⟩, d7, d8, d9⟩ := DW.out
  obtain ⟨k1, k2, k3⟩ := d7 who hw
  obtain ⟨K, kc, k4, k5, k6, k7, k8⟩ := k3 2 key val (by rw [he]; rfl)
  rw [he] at k1 k2
  have c0 : W.cell? ⟨gk, 2 + who * 4, none⟩ = some (.int .u8 2) := k1
  have c3 : W.cell? ⟨gk, 2 + who * 4 + 3, none⟩ = some (.int .i64 0) := k2
  obtain ⟨n, Hn⟩ : ∃ n, Hid (s.lst.length = n) := ⟨_, rfl⟩
  obtain ⟨m, Hm⟩ : ∃ m, Hid (key.length = m) := ⟨_, rfl⟩
  have hn : n ≤ 4096 := by rw [← Hn.out]; exact hi.1.2.2
  have hm : m ≤ 256 := by rw [← Hm.out]; exact hask.2.2.1
  rw [Hn.out] at d3
  rw [Hm.out] at k4 k6
  have FD := Lib.hid (fun u (x : Ext W u) => rfind_any u LA K n lc m kc s.lst lks key Hn.out hi.1 (d4.ext x) Hm.out (by omega) hask.2.2.2.1 (k7.ext x))
  rw [show findI s.lst key = -1 from if_neg (by rw [hh]; exact Bool.false_ne_true)] at FD
  have HH := Lib.hid hh
  clear hh
  have HE := Lib.hid he; have HASK := Lib.hid hask; have LE := Lib.hid d4; have L5 := Lib.hid d5; have L6 := Lib.hid d6; have K7 := Lib.hid k7; have K8 := Lib.hid k8
  clear h xW hi he hask d1 d4 d5 d6 d7 d8 d9 k1 k2 k3 k7 k8
  go_enter Try.func43, Try.ntmps43
  go_upto_region 1 with fail
  (try rw [hW])
  clear hW
  go_upto_region 6 with fail
  go_region_held3 (fun u => u.cell? ⟨gk, 1, none⟩ = some (.slice LA n lc) ∧ u.cell? ⟨gk, 2 + who * 4 + 1, none⟩ = some (.slice K m kc))
    (((try dsimp only); refine ⟨?_, ?_⟩ <;> first | (with_reducible exact drew_cell d3) | (with_reducible exact drew_cell k4) | (with_reducible assumption)))
    ((go_at_call 71; (with_reducible refine (FD.out _ (by first | exact Ext.refl W | exact (Ext.refl W).drew)).mono ?_); rintro e V ⟨rfl, xV⟩; have XV := Lib.hid ((Ext.refl W).drew.trans xV); have e0 := ext_cell XV.out c0; have e1 := ext_cell XV.out k4; have e2 := ext_cell XV.out k5; have e3 := ext_cell XV.out c3; have e4 := ext_cell XV.out d2; have e5 := ext_cell XV.out d3; have KZV := Lib.hid (blk_ext KZ.out XV.out); have DV := Lib.hid (DW.out.ext XV.out); clear xV))
  all_goals
    have hn8 : ¬ (4096 : Int) ≤ (n : Int) := by have := Hn.out; omega
    have e3f := DV.out.1.frz (2 + who * 4 + 3)
    have t0 := blk_cell KZV.out 0; have t1 := blk_cell KZV.out 1; have t2 := blk_cell KZV.out 2; have f0 := blk_frozen KZV.out 0; have f1 := blk_frozen KZV.out 1; have f2 := blk_frozen KZV.out 2
    have DN := Lib.hid (show DocGo W G gk (s.put who (.swap 2 key val s.ver ml nu)) (V.setCell ⟨gk, 2 + who * 4 + 3, none⟩ (.int .i64 (s.ver : Int))) from ⟨G, DV.out.setRead (c' := .swap 2 key val s.ver ml nu) hw (by rw [HE.out]; rfl) (by rw [HE.out]; rfl) rfl, (GB.back XV.out ((GB.refl V (· = gk)).set _ _ _ (.inl rfl))), fun _ e => e, fun _ e => .inl e⟩)
    go_wp2_with fail
    refine bodyPost_ret (results_row_tmp (p := 4) (u := 5) rfl _ _ w.heap.size _ #[.bool false, .int .i64 0, .int .i64 0] (0, 0) _ rfl (row3 (blk_off KZV.out (by omega)) _ _ _) Try.underlying86 (by rfl) (by kernel_rfl)) rfl ?_
    first | exact ⟨rfl, dgo_res H.out XW.out (blk_lt KZ.out) DN.out _ _ _⟩ | exact ⟨rfl, (dgo_res H.out XW.out (blk_lt KZ.out) DN.out _ _ _).drew⟩
set_option maxHeartbeats 4000000 in
set_option maxRecDepth 100000 in
theorem dstep_b3n (w : World) (G : Nat → Prop) (gk who : Nat) (key : List Nat) (val : Int) (s : SSt) (h : DocAt w G gk s) (hi : SInv s) (hw : who < 64) (he : s.call who = .begun 3 key val) (hh : hasE s.lst key = false) (ml : List Ent) (nu : Int) (hfull : s.lst.length ≠ 4096) :
    Calls Try.prog 43 #[.pointer (some ⟨gk, 0, none⟩), .int .i64 (who : Int)] w (DStepR w G gk (s.put who (.swap 3 key val s.ver ml nu), ⟨false, 0, 0⟩)) := by
  have a1 : ¬ (who : Int) < 0 := by omega
  have a2 : ¬ (63 : Int) < (who : Int) := by omega
  have a3 : (0 : Int) ≤ (who : Int) := by omega
  have a4 : (who : Int) < 64 := by omega
  obtain ⟨W, hW⟩ : ∃ W, w.alloc (.cells #[.bool false, .int .i64 0, .int .i64 0] 86) = W := ⟨_, rfl⟩
  have xW : Ext w W := by rw [← hW]; exact (Ext.refl w).alloc _
  have KZ := Lib.hid (show W.heap[w.heap.size]? = some (.cells #[.bool false, .int .i64 0, .int .i64 0] 86 (0, 0)) by rw [← hW]; exact blk_new w _)
  have DW := Lib.hid (h.ext xW); have H := Lib.hid h; have XW := Lib.hid xW; have HI := Lib.hid hi
  have hask : AskOk 3 key val := by have := hi.2.2 who; rw [he] at this; exact this
  have hgk : gk < w.heap.size := h.2.2.2.2.2 gk h.2.2.2.2.1
  obtain ⟨d1, d2, ⟨LA, lc, lks, d3, d4, d5, d6⟩, d7, d8, d9⟩ := DW.out
  obtain ⟨k1, k2, k3⟩ := d7 who hw
  obtain ⟨K, kc, k4, k5, k6, k7, k8⟩ := k3 3 key val (by rw [he]; rfl)
  rw [he] at k1 k2
  have c0 : W.cell? ⟨gk, 2 + who * 4, none⟩ = some (.int .u8 3) := k1
  have c3 : W.cell? ⟨gk, 2 + who * 4 + 3, none⟩ = some (.int .i64 0) := k2
  obtain ⟨n, Hn⟩ : ∃ n, Hid (s.lst.length = n) := ⟨_, rfl⟩
  obtain ⟨m, Hm⟩ : ∃ m, Hid (key.length = m) := ⟨_, rfl⟩
  have hn : n ≤ 4096 := by rw [← Hn.out]; exact hi.1.2.2
  have hm : m ≤ 256 := by rw [← Hm.out]; exact hask.2.2.1
  rw [Hn.out] at d3
  rw [Hm.out] at k4 k6
  have FD := Lib.hid (fun u (x : Ext W u) => rfind_any u LA K n lc m kc s.lst lks key Hn.out hi.1 (d4.ext x) Hm.out (by omega) hask.2.2.2.1 (k7.ext x))
  rw [show findI s.lst key = -1 from if_neg (by rw [hh]; exact Bool.false_ne_true)] at FD
  have HH := Lib.hid hh
  clear hh
  have HE := Lib.hid he; have HASK := Lib.hid hask; have LE := Lib.hid d4; have L5 := Lib.hid d5; have L6 := Lib.hid d6; have K7 := Lib.hid k7; have K8 := Lib.hid k8
  clear h xW hi he hask d1 d4 d5 d6 d7 d8 d9 k1 k2 k3 k7 k8
  go_enter Try.func43, Try.ntmps43
  go_upto_region 1 with fail
  (try rw [hW])
  clear hW
  go_upto_region 6 with fail
  go_region_held3 (fun u => u.cell? ⟨gk, 1, none⟩ = some (.slice LA n lc) ∧ u.cell? ⟨gk, 2 + who * 4 + 1, none⟩ = some (.slice K m kc))
    (((try dsimp only); refine ⟨?_, ?_⟩ <;> first | (with_reducible exact drew_cell d3) | (with_reducible exact drew_cell k4) | (with_reducible assumption)))
    ((go_at_call 71; (with_reducible refine (FD.out _ (by first | exact Ext.refl W | exact (Ext.refl W).drew)).mono ?_); rintro e V ⟨rfl, xV⟩; have XV := Lib.hid ((Ext.refl W).drew.trans xV); have e0 := ext_cell XV.out c0; have e1 := ext_cell XV.out k4; have e2 := ext_cell XV.out k5; have e3 := ext_cell XV.out c3; have e4 := ext_cell XV.out d2; have e5 := ext_cell XV.out d3; have KZV := Lib.hid (blk_ext KZ.out XV.out); have DV := Lib.hid (DW.out.ext XV.out); clear xV))
  all_goals
    have hn8 : ¬ (4096 : Int) ≤ (n : Int) := by have := Hn.out; omega
    have e3f := DV.out.1.frz (2 + who * 4 + 3)
    have t0 := blk_cell KZV.out 0; have t1 := blk_cell KZV.out 1; have t2 := blk_cell KZV.out 2; have f0 := blk_frozen KZV.out 0; have f1 := blk_frozen KZV.out 1; have f2 := blk_frozen KZV.out 2
    have DN := Lib.hid (show DocGo W G gk (s.put who (.swap 3 key val s.ver ml nu)) (V.setCell ⟨gk, 2 + who * 4 + 3, none⟩ (.int .i64 (s.ver : Int))) from ⟨G, DV.out.setRead (c' := .swap 3 key val s.ver ml nu) hw (by rw [HE.out]; rfl) (by rw [HE.out]; rfl) rfl, (GB.back XV.out ((GB.refl V (· = gk)).set _ _ _ (.inl rfl))), fun _ e => e, fun _ e => .inl e⟩)
    go_wp2_with fail
    refine bodyPost_ret (results_row_tmp (p := 4) (u := 5) rfl _ _ w.heap.size _ #[.bool false, .int .i64 0, .int .i64 0] (0, 0) _ rfl (row3 (blk_off KZV.out (by omega)) _ _ _) Try.underlying86 (by rfl) (by kernel_rfl)) rfl ?_
    first | exact ⟨rfl, dgo_res H.out XW.out (blk_lt KZ.out) DN.out _ _ _⟩ | exact ⟨rfl, (dgo_res H.out XW.out (blk_lt KZ.out) DN.out _ _ _).drew⟩
set_option maxHeartbeats 4000000 in
set_option maxRecDepth 100000 in
theorem dstep_b2h (w : World) (G : Nat → Prop) (gk who : Nat) (key : List Nat) (val : Int) (s : SSt) (h : DocAt w G gk s) (hi : SInv s) (hw : who < 64) (he : s.call who = .begun 2 key val) (hh : hasE s.lst key = true) (ml : List Ent) (nu : Int) :
    Calls Try.prog 43 #[.pointer (some ⟨gk, 0, none⟩), .int .i64 (who : Int)] w (DStepR w G gk (s.put who (.swap 2 key val s.ver ml nu), ⟨false, 0, 0⟩)) := by
  have a1 : ¬ (who : Int) < 0 := by omega
  have a2 : ¬ (63 : Int) < (who : Int) := by omega
  have a3 : (0 : Int) ≤ (who : Int) := by omega
  have a4 : (who : Int) < 64 := by omega
  obtain ⟨W, hW⟩ : ∃ W, w.alloc (.cells #[.bool false, .int .i64 0, .int .i64 0] 86) = W := ⟨_, rfl⟩
  have xW : Ext w W := by rw [← hW]; exact (Ext.refl w).alloc _
  have KZ := Lib.hid (show W.heap[w.heap.size]? = some (.cells #[.bool false, .int .i64 0, .int .i64 0] 86 (0, 0)) by rw [← hW]; exact blk_new w _)
  have DW := Lib.hid (h.ext xW); have H := Lib.hid h; have XW := Lib.hid xW; have HI := Lib.hid hi
  have hask : AskOk 2 key val := by have := hi.2.2 who; rw [he] at this; exact this
  have hgk : gk < w.heap.size := h.2.2.2.2.2 gk h.2.2.2.2.1
  obtain ⟨d1, d2, ⟨LA, lc, lks, d3, d4, d5, d6⟩, d7, d8, d9⟩ := DW.out
  obtain ⟨k1, k2, k3⟩ := d7 who hw
  obtain ⟨K, kc, k4, k5, k6, k7, k8⟩ := k3 2 key val (by rw [he]; rfl)
  rw [he] at k1 k2
  have c0 : W.cell? ⟨gk, 2 + who * 4, none⟩ = some (.int .u8 2) := k1
  have c3 : W.cell? ⟨gk, 2 + who * 4 + 3, none⟩ = some (.int .i64 0) := k2
  obtain ⟨n, Hn⟩ : ∃ n, Hid (s.lst.length = n) := ⟨_, rfl⟩
  obtain ⟨m, Hm⟩ : ∃ m, Hid (key.length = m) := ⟨_, rfl⟩
  have hn : n ≤ 4096 := by rw [← Hn.out]; exact hi.1.2.2
  have hm : m ≤ 256 := by rw [← Hm.out]; exact hask.2.2.1
  rw [Hn.out] at d3
  rw [Hm.out] at k4 k6
  have FD := Lib.hid (fun u (x : Ext W u) => rfind_any u LA K n lc m kc s.lst lks key Hn.out hi.1 (d4.ext x) Hm.out (by omega) hask.2.2.2.1 (k7.ext x))
  have hlt := has_lt hh
  obtain ⟨gv, hv9, hg⟩ := has_get hh
  rw [Hn.out] at hlt
  obtain ⟨b, off, K1, kc1, hA1, -, -, g1, -, -⟩ := d4.at_ hv9
  rw [show findI s.lst key = (atE s.lst key : Int) from if_pos hh] at FD
  obtain ⟨a, Ha⟩ : ∃ a, Hid (atE s.lst key = a) := ⟨_, rfl⟩
  rw [Ha.out] at FD hlt g1
  subst hA1
  dsimp only at g1
  have hlt' : (a : Int) < (n : Int) := by omega
  have ha0 : (0 : Int) ≤ (a : Int) := by omega
  have ha1 : ¬ (a : Int) < 0 := by omega
  have HG := Lib.hid hg; have HH := Lib.hid hh
  clear hv9 hg hh
  have HE := Lib.hid he; have HASK := Lib.hid hask; have LE := Lib.hid d4; have L5 := Lib.hid d5; have L6 := Lib.hid d6; have K7 := Lib.hid k7; have K8 := Lib.hid k8
  clear h xW hi he hask d1 d4 d5 d6 d7 d8 d9 k1 k2 k3 k7 k8
  go_enter Try.func43, Try.ntmps43
  go_upto_region 1 with fail
  (try rw [hW])
  clear hW
  go_upto_region 6 with fail
  go_region_held3 (fun u => u.cell? ⟨gk, 1, none⟩ = some (.slice (some ⟨b, off, none⟩) n lc) ∧ u.cell? ⟨gk, 2 + who * 4 + 1, none⟩ = some (.slice K m kc))
    (((try dsimp only); refine ⟨?_, ?_⟩ <;> first | (with_reducible exact drew_cell d3) | (with_reducible exact drew_cell k4) | (with_reducible assumption)))
    ((go_at_call 71; (with_reducible refine (FD.out _ (by first | exact Ext.refl W | exact (Ext.refl W).drew)).mono ?_); rintro e V ⟨rfl, xV⟩; have XV := Lib.hid ((Ext.refl W).drew.trans xV); have e0 := ext_cell XV.out c0; have e1 := ext_cell XV.out k4; have e2 := ext_cell XV.out k5; have e3 := ext_cell XV.out c3; have e4 := ext_cell XV.out d2; have e5 := ext_cell XV.out d3; have KZV := Lib.hid (blk_ext KZ.out XV.out); have DV := Lib.hid (DW.out.ext XV.out); clear xV))
  all_goals
    have e3f := DV.out.1.frz (2 + who * 4 + 3)
    have t0 := blk_cell KZV.out 0; have t1 := blk_cell KZV.out 1; have t2 := blk_cell KZV.out 2; have f0 := blk_frozen KZV.out 0; have f1 := blk_frozen KZV.out 1; have f2 := blk_frozen KZV.out 2
    have DN := Lib.hid (show DocGo W G gk (s.put who (.swap 2 key val s.ver ml nu)) (V.setCell ⟨gk, 2 + who * 4 + 3, none⟩ (.int .i64 (s.ver : Int))) from ⟨G, DV.out.setRead (c' := .swap 2 key val s.ver ml nu) hw (by rw [HE.out]; rfl) (by rw [HE.out]; rfl) rfl, (GB.back XV.out ((GB.refl V (· = gk)).set _ _ _ (.inl rfl))), fun _ e => e, fun _ e => .inl e⟩)
    go_wp2_with fail
    refine bodyPost_ret (results_row_tmp (p := 4) (u := 5) rfl _ _ w.heap.size _ #[.bool false, .int .i64 0, .int .i64 0] (0, 0) _ rfl (row3 (blk_off KZV.out (by omega)) _ _ _) Try.underlying86 (by rfl) (by kernel_rfl)) rfl ?_
    first | exact ⟨rfl, dgo_res H.out XW.out (blk_lt KZ.out) DN.out _ _ _⟩ | exact ⟨rfl, (dgo_res H.out XW.out (blk_lt KZ.out) DN.out _ _ _).drew⟩
set_option maxHeartbeats 4000000 in
set_option maxRecDepth 100000 in
theorem dstep_b3h (w : World) (G : Nat → Prop) (gk who : Nat) (key : List Nat) (val : Int) (s : SSt) (h : DocAt w G gk s) (hi : SInv s) (hw : who < 64) (he : s.call who = .begun 3 key val) (hh : hasE s.lst key = true) (ml : List Ent) (nu : Int) :
    Calls Try.prog 43 #[.pointer (some ⟨gk, 0, none⟩), .int .i64 (who : Int)] w (DStepR w G gk (s.put who (.swap 3 key val s.ver ml nu), ⟨false, 0, 0⟩)) := by
  have a1 : ¬ (who : Int) < 0 := by omega
  have a2 : ¬ (63 : Int) < (who : Int) := by omega
  have a3 : (0 : Int) ≤ (who : Int) := by omega
  have a4 : (who : Int) < 64 := by omega
  obtain ⟨W, hW⟩ : ∃ W, w.alloc (.cells #[.bool false, .int .i64 0, .int .i64 0] 86) = W := ⟨_, rfl⟩
  have xW : Ext w W := by rw [← hW]; exact (Ext.refl w).alloc _
  have KZ := Lib.hid (show W.heap[w.heap.size]? = some (.cells #[.bool false, .int .i64 0, .int .i64 0] 86 (0, 0)) by rw [← hW]; exact blk_new w _)
  have DW := Lib.hid (h.ext xW); have H := Lib.hid h; have XW := Lib.hid xW; have HI := Lib.hid hi
  have hask : AskOk 3 key val := by have := hi.2.2 who; rw [he] at this; exact this
  have hgk : gk < w.heap.size := h.2.2.2.2.2 gk h.2.2.2.2.1
  obtain ⟨d1, d2, ⟨LA, lc, lks, d3, d4, d5, d6⟩, d7, d8, d9⟩ := DW.out
  obtain ⟨k1, k2, k3⟩ := d7 who hw
  obtain ⟨K, kc, k4, k5, k6, k7, k8⟩ := k3 3 key val (by rw [he]; rfl)
  rw [he] at k1 k2
  have c0 : W.cell? ⟨gk, 2 + who * 4, none⟩ = some (.int .u8 3) := k1
  have c3 : W.cell? ⟨gk, 2 + who * 4 + 3, none⟩ = some (.int .i64 0) := k2
  obtain ⟨n, Hn⟩ : ∃ n, Hid (s.lst.length = n) := ⟨_, rfl⟩
  obtain ⟨m, Hm⟩ : ∃ m, Hid (key.length = m) := ⟨_, rfl⟩
  have hn : n ≤ 4096 := by rw [← Hn.out]; exact hi.1.2.2
  have hm : m ≤ 256 := by rw [← Hm.out]; exact hask.2.2.1
  rw [Hn.out] at d3
  rw [Hm.out] at k4 k6
  have FD := Lib.hid (fun u (x : Ext W u) => rfind_any u LA K n lc m kc s.lst lks key Hn.out hi.1 (d4.ext x) Hm.out (by omega) hask.2.2.2.1 (k7.ext x))
  have hlt := has_lt hh
  obtain ⟨gv, hv9, hg⟩ := has_get hh
  rw [Hn.out] at hlt
  obtain ⟨b, off, K1, kc1, hA1, -, -, g1, -, -⟩ := d4.at_ hv9
  rw [show findI s.lst key = (atE s.lst key : Int) from if_pos hh] at FD
  obtain ⟨a, Ha⟩ : ∃ a, Hid (atE s.lst key = a) := ⟨_, rfl⟩
  rw [Ha.out] at FD hlt g1
  subst hA1
  dsimp only at g1
  have hlt' : (a : Int) < (n : Int) := by omega
  have ha0 : (0 : Int) ≤ (a : Int) := by omega
  have ha1 : ¬ (a : Int) < 0 := by omega
  have HG := Lib.hid hg; have HH := Lib.hid hh
  clear hv9 hg hh
  have HE := Lib.hid he; have HASK := Lib.hid hask; have LE := Lib.hid d4; have L5 := Lib.hid d5; have L6 := Lib.hid d6; have K7 := Lib.hid k7; have K8 := Lib.hid k8
  clear h xW hi he hask d1 d4 d5 d6 d7 d8 d9 k1 k2 k3 k7 k8
  go_enter Try.func43, Try.ntmps43
  go_upto_region 1 with fail
  (try rw [hW])
  clear hW
  go_upto_region 6 with fail
  go_region_held3 (fun u => u.cell? ⟨gk, 1, none⟩ = some (.slice (some ⟨b, off, none⟩) n lc) ∧ u.cell? ⟨gk, 2 + who * 4 + 1, none⟩ = some (.slice K m kc))
    (((try dsimp only); refine ⟨?_, ?_⟩ <;> first | (with_reducible exact drew_cell d3) | (with_reducible exact drew_cell k4) | (with_reducible assumption)))
    ((go_at_call 71; (with_reducible refine (FD.out _ (by first | exact Ext.refl W | exact (Ext.refl W).drew)).mono ?_); rintro e V ⟨rfl, xV⟩; have XV := Lib.hid ((Ext.refl W).drew.trans xV); have e0 := ext_cell XV.out c0; have e1 := ext_cell XV.out k4; have e2 := ext_cell XV.out k5; have e3 := ext_cell XV.out c3; have e4 := ext_cell XV.out d2; have e5 := ext_cell XV.out d3; have KZV := Lib.hid (blk_ext KZ.out XV.out); have DV := Lib.hid (DW.out.ext XV.out); clear xV))
  all_goals
    have e3f := DV.out.1.frz (2 + who * 4 + 3)
    have t0 := blk_cell KZV.out 0; have t1 := blk_cell KZV.out 1; have t2 := blk_cell KZV.out 2; have f0 := blk_frozen KZV.out 0; have f1 := blk_frozen KZV.out 1; have f2 := blk_frozen KZV.out 2
    have DN := Lib.hid (show DocGo W G gk (s.put who (.swap 3 key val s.ver ml nu)) (V.setCell ⟨gk, 2 + who * 4 + 3, none⟩ (.int .i64 (s.ver : Int))) from ⟨G, DV.out.setRead (c' := .swap 3 key val s.ver ml nu) hw (by rw [HE.out]; rfl) (by rw [HE.out]; rfl) rfl, (GB.back XV.out ((GB.refl V (· = gk)).set _ _ _ (.inl rfl))), fun _ e => e, fun _ e => .inl e⟩)
    go_wp2_with fail
    refine bodyPost_ret (results_row_tmp (p := 4) (u := 5) rfl _ _ w.heap.size _ #[.bool false, .int .i64 0, .int .i64 0] (0, 0) _ rfl (row3 (blk_off KZV.out (by omega)) _ _ _) Try.underlying86 (by rfl) (by kernel_rfl)) rfl ?_
    first | exact ⟨rfl, dgo_res H.out XW.out (blk_lt KZ.out) DN.out _ _ _⟩ | exact ⟨rfl, (dgo_res H.out XW.out (blk_lt KZ.out) DN.out _ _ _).drew⟩
set_option maxHeartbeats 4000000 in
set_option maxRecDepth 100000 in
theorem dstep_b4h (w : World) (G : Nat → Prop) (gk who : Nat) (key : List Nat) (val : Int) (s : SSt) (h : DocAt w G gk s) (hi : SInv s) (hw : who < 64) (he : s.call who = .begun 4 key val) (hh : hasE s.lst key = true) (ml : List Ent) (nu : Int) :
    Calls Try.prog 43 #[.pointer (some ⟨gk, 0, none⟩), .int .i64 (who : Int)] w (DStepR w G gk (s.put who (.swap 4 key val s.ver ml nu), ⟨false, 0, 0⟩)) := by
  have a1 : ¬ (who : Int) < 0 := by omega
  have a2 : ¬ (63 : Int) < (who : Int) := by omega
  have a3 : (0 : Int) ≤ (who : Int) := by omega
  have a4 : (who : Int) < 64 := by omega
  obtain ⟨W, hW⟩ : ∃ W, w.alloc (.cells #[.bool false, .int .i64 0, .int .i64 0] 86) = W := ⟨_, rfl⟩
  have xW : Ext w W := by rw [← hW]; exact (Ext.refl w).alloc _
  have KZ := Lib.hid (show W.heap[w.heap.size]? = some (.cells #[.bool false, .int .i64 0, .int .i64 0] 86 (0, 0)) by rw [← hW]; exact blk_new w _)
  have DW := Lib.hid (h.ext xW); have H := Lib.hid h; have XW := Lib.hid xW; have HI := Lib.hid hi
  have hask : AskOk 4 key val := by have := hi.2.2 who; rw [he] at this; exact this
  have hgk : gk < w.heap.size := h.2.2.2.2.2 gk h.2.2.2.2.1
  obtain ⟨d1, d2, ⟨LA, lc, lks, d3, d4, d5, d6⟩, d7, d8, d9⟩ := DW.out
  obtain ⟨k1, k2, k3⟩ := d7 who hw
  obtain ⟨K, kc, k4, k5, k6, k7, k8⟩ := k3 4 key val (by rw [he]; rfl)
  rw [he] at k1 k2
  have c0 : W.cell? ⟨gk, 2 + who * 4, none⟩ = some (.int .u8 4) := k1
  have c3 : W.cell? ⟨gk, 2 + who * 4 + 3, none⟩ = some (.int .i64 0) := k2
  obtain ⟨n, Hn⟩ : ∃ n, Hid (s.lst.length = n) := ⟨_, rfl⟩
  obtain ⟨m, Hm⟩ : ∃ m, Hid (key.length = m) := ⟨_, rfl⟩
  have hn : n ≤ 4096 := by rw [← Hn.out]; exact hi.1.2.2
  have hm : m ≤ 256 := by rw [← Hm.out]; exact hask.2.2.1
  rw [Hn.out] at d3
  rw [Hm.out] at k4 k6
  have FD := Lib.hid (fun u (x : Ext W u) => rfind_any u LA K n lc m kc s.lst lks key Hn.out hi.1 (d4.ext x) Hm.out (by omega) hask.2.2.2.1 (k7.ext x))
  have hlt := has_lt hh
  obtain ⟨gv, hv9, hg⟩ := has_get hh
  rw [Hn.out] at hlt
  obtain ⟨b, off, K1, kc1, hA1, -, -, g1, -, -⟩ := d4.at_ hv9
  rw [show findI s.lst key = (atE s.lst key : Int) from if_pos hh] at FD
  obtain ⟨a, Ha⟩ : ∃ a, Hid (atE s.lst key = a) := ⟨_, rfl⟩
  rw [Ha.out] at FD hlt g1
  subst hA1
  dsimp only at g1
  have hlt' : (a : Int) < (n : Int) := by omega
  have ha0 : (0 : Int) ≤ (a : Int) := by omega
  have ha1 : ¬ (a : Int) < 0 := by omega
  have HG := Lib.hid hg; have HH := Lib.hid hh
  clear hv9 hg hh
  have HE := Lib.hid he; have HASK := Lib.hid hask; have LE := Lib.hid d4; have L5 := Lib.hid d5; have L6 := Lib.hid d6; have K7 := Lib.hid k7; have K8 := Lib.hid k8
  clear h xW hi he hask d1 d4 d5 d6 d7 d8 d9 k1 k2 k3 k7 k8
  go_enter Try.func43, Try.ntmps43
  go_upto_region 1 with fail
  (try rw [hW])
  clear hW
  go_upto_region 6 with fail
  go_region_held3 (fun u => u.cell? ⟨gk, 1, none⟩ = some (.slice (some ⟨b, off, none⟩) n lc) ∧ u.cell? ⟨gk, 2 + who * 4 + 1, none⟩ = some (.slice K m kc))
    (((try dsimp only); refine ⟨?_, ?_⟩ <;> first | (with_reducible exact drew_cell d3) | (with_reducible exact drew_cell k4) | (with_reducible assumption)))
    ((go_at_call 71; (with_reducible refine (FD.out _ (by first | exact Ext.refl W | exact (Ext.refl W).drew)).mono ?_); rintro e V ⟨rfl, xV⟩; have XV := Lib.hid ((Ext.refl W).drew.trans xV); have e0 := ext_cell XV.out c0; have e1 := ext_cell XV.out k4; have e2 := ext_cell XV.out k5; have e3 := ext_cell XV.out c3; have e4 := ext_cell XV.out d2; have e5 := ext_cell XV.out d3; have KZV := Lib.hid (blk_ext KZ.out XV.out); have DV := Lib.hid (DW.out.ext XV.out); clear xV))
  all_goals
    have e3f := DV.out.1.frz (2 + who * 4 + 3)
    have t0 := blk_cell KZV.out 0; have t1 := blk_cell KZV.out 1; have t2 := blk_cell KZV.out 2; have f0 := blk_frozen KZV.out 0; have f1 := blk_frozen KZV.out 1; have f2 := blk_frozen KZV.out 2
    have DN := Lib.hid (show DocGo W G gk (s.put who (.swap 4 key val s.ver ml nu)) (V.setCell ⟨gk, 2 + who * 4 + 3, none⟩ (.int .i64 (s.ver : Int))) from ⟨G, DV.out.setRead (c' := .swap 4 key val s.ver ml nu) hw (by rw [HE.out]; rfl) (by rw [HE.out]; rfl) rfl, (GB.back XV.out ((GB.refl V (· = gk)).set _ _ _ (.inl rfl))), fun _ e => e, fun _ e => .inl e⟩)
    go_wp2_with fail
    refine bodyPost_ret (results_row_tmp (p := 4) (u := 5) rfl _ _ w.heap.size _ #[.bool false, .int .i64 0, .int .i64 0] (0, 0) _ rfl (row3 (blk_off KZV.out (by omega)) _ _ _) Try.underlying86 (by rfl) (by kernel_rfl)) rfl ?_
    first | exact ⟨rfl, dgo_res H.out XW.out (blk_lt KZ.out) DN.out _ _ _⟩ | exact ⟨rfl, (dgo_res H.out XW.out (blk_lt KZ.out) DN.out _ _ _).drew⟩

set_option maxHeartbeats 4000000 in
set_option maxRecDepth 100000 in
theorem dstep_s2e (w : World) (G : Nat → Prop) (gk who : Nat) (key : List Nat) (val : Int) (v : Nat) (ml : List Ent) (nu : Int) (s : SSt) (h : DocAt w G gk s) (hi : SInv s) (hw : who < 64) (he : s.call who = .swap 2 key val v ml nu) (hv1 : 1 ≤ v) (hne : s.ver ≠ v) :
    Calls Try.prog 43 #[.pointer (some ⟨gk, 0, none⟩), .int .i64 (who : Int)] w (DStepR w G gk (s.put who (.begun 2 key val), ⟨false, 0, 0⟩)) := by
  have a1 : ¬ (who : Int) < 0 := by omega
  have a2 : ¬ (63 : Int) < (who : Int) := by omega
  have a3 : (0 : Int) ≤ (who : Int) := by omega
  have a4 : (who : Int) < 64 := by omega
  obtain ⟨W, hW⟩ : ∃ W, w.alloc (.cells #[.bool false, .int .i64 0, .int .i64 0] 86) = W := ⟨_, rfl⟩
  have xW : Ext w W := by rw [← hW]; exact (Ext.refl w).alloc _
  have KZ := Lib.hid (show W.heap[w.heap.size]? = some (.cells #[.bool false, .int .i64 0, .int .i64 0] 86 (0, 0)) by rw [← hW]; exact blk_new w _)
  have DW := Lib.hid (h.ext xW); have H := Lib.hid h; have XW := Lib.hid xW; have HI := Lib.hid hi
  have hask : AskOk 2 key val := by have := hi.2.2 who; rw [he] at this; exact this.1
  have hgk : gk < w.heap.size := h.2.2.2.2.2 gk h.2.2.2.2.1
  obtain ⟨d1, d2, ⟨LA, lc, lks, d3, d4, d5, d6⟩, d7, d8, d9⟩ := DW.out
  obtain ⟨k1, k2, k3⟩ := d7 who hw
  obtain ⟨K, kc, k4, k5, k6, k7, k8⟩ := k3 2 key val (by rw [he]; rfl)
  rw [he] at k1 k2
  have c0 : W.cell? ⟨gk, 2 + who * 4, none⟩ = some (.int .u8 2) := k1
  have c3 : W.cell? ⟨gk, 2 + who * 4 + 3, none⟩ = some (.int .i64 (v : Int)) := k2
  obtain ⟨n, Hn⟩ : ∃ n, Hid (s.lst.length = n) := ⟨_, rfl⟩
  obtain ⟨m, Hm⟩ : ∃ m, Hid (key.length = m) := ⟨_, rfl⟩
  have hn : n ≤ 4096 := by rw [← Hn.out]; exact hi.1.2.2
  have hm : m ≤ 256 := by rw [← Hm.out]; exact hask.2.2.1
  rw [Hn.out] at d3
  rw [Hm.out] at k4 k6
  have FD := Lib.hid (fun u (x : Ext W u) => rfind_any u LA K n lc m kc s.lst lks key Hn.out hi.1 (d4.ext x) Hm.out (by omega) hask.2.2.2.1 (k7.ext x))
  obtain ⟨fi, Hfi⟩ : ∃ x, Hid (findI s.lst key = x) := ⟨_, rfl⟩
  rw [Hfi.out] at FD
  have HE := Lib.hid he; have HASK := Lib.hid hask; have LE := Lib.hid d4; have L5 := Lib.hid d5; have L6 := Lib.hid d6; have K7 := Lib.hid k7; have K8 := Lib.hid k8
  clear h xW hi he hask d1 d4 d5 d6 d7 d8 d9 k1 k2 k3 k7 k8
  go_enter Try.func43, Try.ntmps43
  go_upto_region 1 with fail
  (try rw [hW])
  clear hW
  go_upto_region 6 with fail
  go_region_held3 (fun u => u.cell? ⟨gk, 1, none⟩ = some (.slice LA n lc) ∧ u.cell? ⟨gk, 2 + who * 4 + 1, none⟩ = some (.slice K m kc))
    (((try dsimp only); refine ⟨?_, ?_⟩ <;> first | (with_reducible exact drew_cell d3) | (with_reducible exact drew_cell k4) | (with_reducible assumption)))
    ((go_at_call 71; (with_reducible refine (FD.out _ (by first | exact Ext.refl W | exact (Ext.refl W).drew)).mono ?_); rintro e V ⟨rfl, xV⟩; have XV := Lib.hid ((Ext.refl W).drew.trans xV); have e0 := ext_cell XV.out c0; have e1 := ext_cell XV.out k4; have e2 := ext_cell XV.out k5; have e3 := ext_cell XV.out c3; have e4 := ext_cell XV.out d2; have e5 := ext_cell XV.out d3; have KZV := Lib.hid (blk_ext KZ.out XV.out); have DV := Lib.hid (DW.out.ext XV.out); clear xV))
  all_goals
    have hv0 : ((v : Int) == 0) = false := by simpa using (by omega : (v : Int) ≠ 0)
    have hv1 : ((v : Int) != (s.ver : Int)) = true := by simpa using (by omega : (v : Int) ≠ (s.ver : Int))
    go_upto_region 16 with fail
    go_region
    have e3f := DV.out.1.frz (2 + who * 4 + 3)
    have t0 := blk_cell KZV.out 0; have t1 := blk_cell KZV.out 1; have t2 := blk_cell KZV.out 2; have f0 := blk_frozen KZV.out 0; have f1 := blk_frozen KZV.out 1; have f2 := blk_frozen KZV.out 2
    have DN := Lib.hid (show DocGo W G gk (s.put who (.begun 2 key val)) (V.setCell ⟨gk, 2 + who * 4 + 3, none⟩ (.int .i64 0)) from ⟨G, DV.out.setRead (c' := .begun 2 key val) hw (by rw [HE.out]; rfl) (by rw [HE.out]; rfl) rfl, (GB.back XV.out ((GB.refl V (· = gk)).set _ _ _ (.inl rfl))), fun _ e => e, fun _ e => .inl e⟩)
    go_wp2_with fail
    refine bodyPost_ret (results_row_tmp (p := 4) (u := 5) rfl _ _ w.heap.size _ #[.bool false, .int .i64 0, .int .i64 0] (0, 0) _ rfl (row3 (blk_off KZV.out (by omega)) _ _ _) Try.underlying86 (by rfl) (by kernel_rfl)) rfl ?_
    first | exact ⟨rfl, dgo_res H.out XW.out (blk_lt KZ.out) DN.out _ _ _⟩ | exact ⟨rfl, (dgo_res H.out XW.out (blk_lt KZ.out) DN.out _ _ _).drew⟩
set_option maxHeartbeats 4000000 in
set_option maxRecDepth 100000 in
theorem dstep_s3e (w : World) (G : Nat → Prop) (gk who : Nat) (key : List Nat) (val : Int) (v : Nat) (ml : List Ent) (nu : Int) (s : SSt) (h : DocAt w G gk s) (hi : SInv s) (hw : who < 64) (he : s.call who = .swap 3 key val v ml nu) (hv1 : 1 ≤ v) (hne : s.ver ≠ v) :
    Calls Try.prog 43 #[.pointer (some ⟨gk, 0, none⟩), .int .i64 (who : Int)] w (DStepR w G gk (s.put who (.begun 3 key val), ⟨false, 0, 0⟩)) := by
  have a1 : ¬ (who : Int) < 0 := by omega
  have a2 : ¬ (63 : Int) < (who : Int) := by omega
  have a3 : (0 : Int) ≤ (who : Int) := by omega
  have a4 : (who : Int) < 64 := by omega
  obtain ⟨W, hW⟩ : ∃ W, w.alloc (.cells #[.bool false, .int .i64 0, .int .i64 0] 86) = W := ⟨_, rfl⟩
  have xW : Ext w W := by rw [← hW]; exact (Ext.refl w).alloc _
  have KZ := Lib.hid (show W.heap[w.heap.size]? = some (.cells #[.bool false, .int .i64 0, .int .i64 0] 86 (0, 0)) by rw [← hW]; exact blk_new w _)
  have DW := Lib.hid (h.ext xW); have H := Lib.hid h; have XW := Lib.hid xW; have HI := Lib.hid hi
  have hask : AskOk 3 key val := by have := hi.2.2 who; rw [he] at this; exact this.1
  have hgk : gk < w.heap.size := h.2.2.2.2.2 gk h.2.2.2.2.1
  obtain ⟨d1, d2, ⟨LA, lc, lks, d3, d4, d5, d6⟩, d7, d8, d9⟩ := DW.out
  obtain ⟨k1, k2, k3⟩ := d7 who hw
  obtain ⟨K, kc, k4, k5, k6, k7, k8⟩ := k3 3 key val (by rw [he]; rfl)
  rw [he] at k1 k2
  have c0 : W.cell? ⟨gk, 2 + who * 4, none⟩ = some (.int .u8 3) := k1
  have c3 : W.cell? ⟨gk, 2 + who * 4 + 3, none⟩ = some (.int .i64 (v : Int)) := k2
  obtain ⟨n, Hn⟩ : ∃ n, Hid (s.lst.length = n) := ⟨_, rfl⟩
  obtain ⟨m, Hm⟩ : ∃ m, Hid (key.length = m) := ⟨_, rfl⟩
  have hn : n ≤ 4096 := by rw [← Hn.out]; exact hi.1.2.2
  have hm : m ≤ 256 := by rw [← Hm.out]; exact hask.2.2.1
  rw [Hn.out] at d3
  rw [Hm.out] at k4 k6
  have FD := Lib.hid (fun u (x : Ext W u) => rfind_any u LA K n lc m kc s.lst lks key Hn.out hi.1 (d4.ext x) Hm.out (by omega) hask.2.2.2.1 (k7.ext x))
  obtain ⟨fi, Hfi⟩ : ∃ x, Hid (findI s.lst key = x) := ⟨_, rfl⟩
  rw [Hfi.out] at FD
  have HE := Lib.hid he; have HASK := Lib.hid hask; have LE := Lib.hid d4; have L5 := Lib.hid d5; have L6 := Lib.hid d6; have K7 := Lib.hid k7; have K8 := Lib.hid k8
  clear h xW hi he hask d1 d4 d5 d6 d7 d8 d9 k1 k2 k3 k7 k8
  go_enter Try.func43, Try.ntmps43
  go_upto_region 1 with fail
  (try rw [hW])
  clear hW
  go_upto_region 6 with fail
  go_region_held3 (fun u => u.cell? ⟨gk, 1, none⟩ = some (.slice LA n lc) ∧ u.cell? ⟨gk, 2 + who * 4 + 1, none⟩ = some (.slice K m kc))
    (((try dsimp only); refine ⟨?_, ?_⟩ <;> first | (with_reducible exact drew_cell d3) | (with_reducible exact drew_cell k4) | (with_reducible assumption)))
    ((go_at_call 71; (with_reducible refine (FD.out _ (by first | exact Ext.refl W | exact (Ext.refl W).drew)).mono ?_); rintro e V ⟨rfl, xV⟩; have XV := Lib.hid ((Ext.refl W).drew.trans xV); have e0 := ext_cell XV.out c0; have e1 := ext_cell XV.out k4; have e2 := ext_cell XV.out k5; have e3 := ext_cell XV.out c3; have e4 := ext_cell XV.out d2; have e5 := ext_cell XV.out d3; have KZV := Lib.hid (blk_ext KZ.out XV.out); have DV := Lib.hid (DW.out.ext XV.out); clear xV))
  all_goals
    have hv0 : ((v : Int) == 0) = false := by simpa using (by omega : (v : Int) ≠ 0)
    have hv1 : ((v : Int) != (s.ver : Int)) = true := by simpa using (by omega : (v : Int) ≠ (s.ver : Int))
    go_upto_region 16 with fail
    go_region
    have e3f := DV.out.1.frz (2 + who * 4 + 3)
    have t0 := blk_cell KZV.out 0; have t1 := blk_cell KZV.out 1; have t2 := blk_cell KZV.out 2; have f0 := blk_frozen KZV.out 0; have f1 := blk_frozen KZV.out 1; have f2 := blk_frozen KZV.out 2
    have DN := Lib.hid (show DocGo W G gk (s.put who (.begun 3 key val)) (V.setCell ⟨gk, 2 + who * 4 + 3, none⟩ (.int .i64 0)) from ⟨G, DV.out.setRead (c' := .begun 3 key val) hw (by rw [HE.out]; rfl) (by rw [HE.out]; rfl) rfl, (GB.back XV.out ((GB.refl V (· = gk)).set _ _ _ (.inl rfl))), fun _ e => e, fun _ e => .inl e⟩)
    go_wp2_with fail
    refine bodyPost_ret (results_row_tmp (p := 4) (u := 5) rfl _ _ w.heap.size _ #[.bool false, .int .i64 0, .int .i64 0] (0, 0) _ rfl (row3 (blk_off KZV.out (by omega)) _ _ _) Try.underlying86 (by rfl) (by kernel_rfl)) rfl ?_
    first | exact ⟨rfl, dgo_res H.out XW.out (blk_lt KZ.out) DN.out _ _ _⟩ | exact ⟨rfl, (dgo_res H.out XW.out (blk_lt KZ.out) DN.out _ _ _).drew⟩
set_option maxHeartbeats 4000000 in
set_option maxRecDepth 100000 in
theorem dstep_s4e (w : World) (G : Nat → Prop) (gk who : Nat) (key : List Nat) (val : Int) (v : Nat) (ml : List Ent) (nu : Int) (s : SSt) (h : DocAt w G gk s) (hi : SInv s) (hw : who < 64) (he : s.call who = .swap 4 key val v ml nu) (hv1 : 1 ≤ v) (hne : s.ver ≠ v) :
    Calls Try.prog 43 #[.pointer (some ⟨gk, 0, none⟩), .int .i64 (who : Int)] w (DStepR w G gk (s.put who (.begun 4 key val), ⟨false, 0, 0⟩)) := by
  have a1 : ¬ (who : Int) < 0 := by omega
  have a2 : ¬ (63 : Int) < (who : Int) := by omega
  have a3 : (0 : Int) ≤ (who : Int) := by omega
  have a4 : (who : Int) < 64 := by omega
  obtain ⟨W, hW⟩ : ∃ W, w.alloc (.cells #[.bool false, .int .i64 0, .int .i64 0] 86) = W := ⟨_, rfl⟩
  have xW : Ext w W := by rw [← hW]; exact (Ext.refl w).alloc _
  have KZ := Lib.hid (show W.heap[w.heap.size]? = some (.cells #[.bool false, .int .i64 0, .int .i64 0] 86 (0, 0)) by rw [← hW]; exact blk_new w _)
  have DW := Lib.hid (h.ext xW); have H := Lib.hid h; have XW := Lib.hid xW; have HI := Lib.hid hi
  have hask : AskOk 4 key val := by have := hi.2.2 who; rw [he] at this; exact this.1
  have hgk : gk < w.heap.size := h.2.2.2.2.2 gk h.2.2.2.2.1
  obtain ⟨d1, d2, ⟨LA, lc, lks, d3, d4, d5, d6⟩, d7, d8, d9⟩ := DW.out
  obtain ⟨k1, k2, k3⟩ := d7 who hw
  obtain ⟨K, kc, k4, k5, k6, k7, k8⟩ := k3 4 key val (by rw [he]; rfl)
  rw [he] at k1 k2
  have c0 : W.cell? ⟨gk, 2 + who * 4, none⟩ = some (.int .u8 4) := k1
  have c3 : W.cell? ⟨gk, 2 + who * 4 + 3, none⟩ = some (.int .i64 (v : Int)) := k2
  obtain ⟨n, Hn⟩ : ∃ n, Hid (s.lst.length = n) := ⟨_, rfl⟩
  obtain ⟨m, Hm⟩ : ∃ m, Hid (key.length = m) := ⟨_, rfl⟩
  have hn : n ≤ 4096 := by rw [← Hn.out]; exact hi.1.2.2
  have hm : m ≤ 256 := by rw [← Hm.out]; exact hask.2.2.1
  rw [Hn.out] at d3
  rw [Hm.out] at k4 k6
  have FD := Lib.hid (fun u (x : Ext W u) => rfind_any u LA K n lc m kc s.lst lks key Hn.out hi.1 (d4.ext x) Hm.out (by omega) hask.2.2.2.1 (k7.ext x))
  obtain ⟨fi, Hfi⟩ : ∃ x, Hid (findI s.lst key = x) := ⟨_, rfl⟩
  rw [Hfi.out] at FD
  have HE := Lib.hid he; have HASK := Lib.hid hask; have LE := Lib.hid d4; have L5 := Lib.hid d5; have L6 := Lib.hid d6; have K7 := Lib.hid k7; have K8 := Lib.hid k8
  clear h xW hi he hask d1 d4 d5 d6 d7 d8 d9 k1 k2 k3 k7 k8
  go_enter Try.func43, Try.ntmps43
  go_upto_region 1 with fail
  (try rw [hW])
  clear hW
  go_upto_region 6 with fail
  go_region_held3 (fun u => u.cell? ⟨gk, 1, none⟩ = some (.slice LA n lc) ∧ u.cell? ⟨gk, 2 + who * 4 + 1, none⟩ = some (.slice K m kc))
    (((try dsimp only); refine ⟨?_, ?_⟩ <;> first | (with_reducible exact drew_cell d3) | (with_reducible exact drew_cell k4) | (with_reducible assumption)))
    ((go_at_call 71; (with_reducible refine (FD.out _ (by first | exact Ext.refl W | exact (Ext.refl W).drew)).mono ?_); rintro e V ⟨rfl, xV⟩; have XV := Lib.hid ((Ext.refl W).drew.trans xV); have e0 := ext_cell XV.out c0; have e1 := ext_cell XV.out k4; have e2 := ext_cell XV.out k5; have e3 := ext_cell XV.out c3; have e4 := ext_cell XV.out d2; have e5 := ext_cell XV.out d3; have KZV := Lib.hid (blk_ext KZ.out XV.out); have DV := Lib.hid (DW.out.ext XV.out); clear xV))
  all_goals
    have hv0 : ((v : Int) == 0) = false := by simpa using (by omega : (v : Int) ≠ 0)
    have hv1 : ((v : Int) != (s.ver : Int)) = true := by simpa using (by omega : (v : Int) ≠ (s.ver : Int))
    go_upto_region 16 with fail
    go_region
    have e3f := DV.out.1.frz (2 + who * 4 + 3)
    have t0 := blk_cell KZV.out 0; have t1 := blk_cell KZV.out 1; have t2 := blk_cell KZV.out 2; have f0 := blk_frozen KZV.out 0; have f1 := blk_frozen KZV.out 1; have f2 := blk_frozen KZV.out 2
    have DN := Lib.hid (show DocGo W G gk (s.put who (.begun 4 key val)) (V.setCell ⟨gk, 2 + who * 4 + 3, none⟩ (.int .i64 0)) from ⟨G, DV.out.setRead (c' := .begun 4 key val) hw (by rw [HE.out]; rfl) (by rw [HE.out]; rfl) rfl, (GB.back XV.out ((GB.refl V (· = gk)).set _ _ _ (.inl rfl))), fun _ e => e, fun _ e => .inl e⟩)
    go_wp2_with fail
    refine bodyPost_ret (results_row_tmp (p := 4) (u := 5) rfl _ _ w.heap.size _ #[.bool false, .int .i64 0, .int .i64 0] (0, 0) _ rfl (row3 (blk_off KZV.out (by omega)) _ _ _) Try.underlying86 (by rfl) (by kernel_rfl)) rfl ?_
    first | exact ⟨rfl, dgo_res H.out XW.out (blk_lt KZ.out) DN.out _ _ _⟩ | exact ⟨rfl, (dgo_res H.out XW.out (blk_lt KZ.out) DN.out _ _ _).drew⟩
end Go.Proofs.Ytlgggeeflomelaa
