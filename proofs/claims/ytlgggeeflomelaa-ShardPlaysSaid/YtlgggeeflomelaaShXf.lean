/- spigotref14: DocStep, a call that changes the map. Printed by gen_shx.py. -/
import Derived.Test.YtlgggeeflomelaaShX
namespace Go.Proofs.Ytlgggeeflomelaa
open Go.RowKit

set_option maxHeartbeats 4000000 in
set_option maxRecDepth 100000 in
theorem dstep_f2 (w : World) (G : Nat → Prop) (gk who : Nat) (key : List Nat) (val : Int) (ml : List Ent) (nu : Int) (s : SSt) (h : DocAt w G gk s) (hi : SInv s) (hw : who < 64) (he : s.call who = .swap 2 key val s.ver ml nu) (hvb : s.ver ≤ 1000000) :
    Calls Try.prog 43 #[.pointer (some ⟨gk, 0, none⟩), .int .i64 (who : Int)] w (DStepR w G gk ({ s with ver := s.ver + 1, lst := putE s.lst key val }.put who .idle, ⟨true, 0, val⟩)) := by
  have a1 : ¬ (who : Int) < 0 := by omega
  have a2 : ¬ (63 : Int) < (who : Int) := by omega
  have a3 : (0 : Int) ≤ (who : Int) := by omega
  have a4 : (who : Int) < 64 := by omega
  obtain ⟨W, hW⟩ : ∃ W, w.alloc (.cells #[.bool false, .int .i64 0, .int .i64 0] 86) = W := ⟨_, rfl⟩
  have xW : Ext w W := by rw [← hW]; exact (Ext.refl w).alloc _
  have KZ := Lib.hid (show W.heap[w.heap.size]? = some (.cells #[.bool false, .int .i64 0, .int .i64 0] 86 (0, 0)) by rw [← hW]; exact blk_new w _)
  have DW := Lib.hid (h.ext xW); have H := Lib.hid h; have XW := Lib.hid xW; have HI := Lib.hid hi
  have hask : AskOk 2 key val := by have := hi.2.2 who; rw [he] at this; exact this.1
  have hgk : gk < w.heap.size := h.2.2.2.2.2 gk h.2.2.2.2.1
  obtain ⟨d1, d2, ⟨LA, lc, lks, d3, d4, d5, d6⟩, d7, d8, d9⟩ := DW.out
  obtain ⟨k1, k2, k3⟩ := d7 who hw
  obtain ⟨K, kc, k4, k5, k6, k7, k8⟩ := k3 2 key val (by rw [he]; rfl)
  rw [he] at k1 k2
  have c0 : W.cell? ⟨gk, 2 + who * 4, none⟩ = some (.int .u8 2) := k1
  have c3 : W.cell? ⟨gk, 2 + who * 4 + 3, none⟩ = some (.int .i64 (s.ver : Int)) := k2
  obtain ⟨n, Hn⟩ : ∃ n, Hid (s.lst.length = n) := ⟨_, rfl⟩
  obtain ⟨m, Hm⟩ : ∃ m, Hid (key.length = m) := ⟨_, rfl⟩
  have hn : n ≤ 4096 := by rw [← Hn.out]; exact hi.1.2.2
  have hm : m ≤ 256 := by rw [← Hm.out]; exact hask.2.2.1
  rw [Hn.out] at d3
  rw [Hm.out] at k4 k6
  have FD := Lib.hid (fun u (x : Ext W u) => rfind_any u LA K n lc m kc s.lst lks key Hn.out hi.1 (d4.ext x) Hm.out (by omega) hask.2.2.2.1 (k7.ext x))
  obtain ⟨fi, Hfi⟩ : ∃ x, Hid (findI s.lst key = x) := ⟨_, rfl⟩
  rw [Hfi.out] at FD
  have HE := Lib.hid he; have HASK := Lib.hid hask; have LE := Lib.hid d4; have L5 := Lib.hid d5; have L6 := Lib.hid d6; have K7 := Lib.hid k7; have K8 := Lib.hid k8
  clear h xW hi he hask d1 d4 d5 d6 d7 d8 d9 k1 k2 k3 k7 k8
  go_enter Try.func43, Try.ntmps43
  go_upto_region 1 with fail
  (try rw [hW])
  clear hW
  go_upto_region 6 with fail
  go_region_held3 (fun u => u.cell? ⟨gk, 1, none⟩ = some (.slice LA n lc) ∧ u.cell? ⟨gk, 2 + who * 4 + 1, none⟩ = some (.slice K m kc))
    (((try dsimp only); refine ⟨?_, ?_⟩ <;> first | (with_reducible exact drew_cell d3) | (with_reducible exact drew_cell k4) | (with_reducible assumption)))
    ((go_at_call 71; (with_reducible refine (FD.out _ (by first | exact Ext.refl W | exact (Ext.refl W).drew)).mono ?_); rintro e V ⟨rfl, xV⟩; have XV := Lib.hid ((Ext.refl W).drew.trans xV); have e0 := ext_cell XV.out c0; have e1 := ext_cell XV.out k4; have e2 := ext_cell XV.out k5; have e3 := ext_cell XV.out c3; have e4 := ext_cell XV.out d2; have e5 := ext_cell XV.out d3; have KZV := Lib.hid (blk_ext KZ.out XV.out); have DV := Lib.hid (DW.out.ext XV.out); clear xV))
  all_goals
    have hv0 : ((s.ver : Int) == 0) = false := by have := HI.out.2.1; simpa using (by omega : (s.ver : Int) ≠ 0)
    obtain ⟨vn, hvn⟩ : ∃ x, s.ver + 1 = x := ⟨_, rfl⟩
    have hw9 : IntKind.i64.wrap ((s.ver : Int) + 1) = (vn : Int) := by rw [IntKind.wrap_i64]; omega
    have f4 := DV.out.1.frz 0
    go_upto_region 16 with fail
    go_region
    go_upto_region 20 with fail
    obtain ⟨X, hX⟩ : ∃ X, V.setCell ⟨gk, 0, none⟩ (.int .i64 (vn : Int)) = X := ⟨_, rfl⟩
    have D1 := Lib.hid (show DocAt X G gk { s with ver := vn } by rw [← hX]; exact DV.out.setVer vn)
    have gX : GB V X (· = gk) := by rw [← hX]; exact (GB.refl V (· = gk)).set _ _ _ (.inl rfl)
    have KZX := Lib.hid (gX.blk KZV.out (by omega : w.heap.size ≠ gk))
    have GX := Lib.hid (GB.back XV.out gX)
    have x0 := cell_off (j := 0) (u := .int .i64 (vn : Int)) e0 (by omega); have x1 := cell_off (j := 0) (u := .int .i64 (vn : Int)) e1 (by omega); have x2 := cell_off (j := 0) (u := .int .i64 (vn : Int)) e2 (by omega); have x5 := cell_off (j := 0) (u := .int .i64 (vn : Int)) e5 (by omega)
    rw [hX] at x0 x1 x2 x5
    have hXs : W.heap.size ≤ X.heap.size := Nat.le_trans XV.out.size gX.size
    have Hvn := Lib.hid hvn
    first | rw [hX] | rw [show (V.setCell ⟨gk, 0, none⟩ (.int .i64 (vn : Int))).drew = X.drew by rw [hX]]
    have LX := Lib.hid (show EntRd X LA s.lst lks from EntRd.of LE.out.1 (gX.rd (LE.out.ext XV.out).2.1 (fun p hp e => (L5.out p hp).2 e)) (fun p hp => ⟨(LE.out.keys p hp).1, gX.rd ((LE.out.ext XV.out).keys p hp).2 (fun a ha e => (L6.out p hp a ha).2 e)⟩))
    have KX := Lib.hid (show Rd X K (vals .u8 key) from gX.rd (K7.out.ext XV.out) (fun p hp e => (K8.out p hp).2 e))
    clear hX gX hw9 e0 e1 e2 e3 e4 e5 f4 hvn
    have PT := Lib.hid (fun (u : World) (x : Ext X u) => rput_any u LA K n lc m kc val s.lst lks key Hn.out HI.out.1 (LX.out.ext x) Hm.out hm k6 HASK.out.2.2.2.1 (KX.out.ext x) (fun q _ => ∀ a, q.1 = some a → G a.block ∧ a.block ≠ gk) L6.out K8.out)
    obtain ⟨nl, Hnl⟩ : ∃ x, Hid ((putE s.lst key val).length = x) := ⟨_, rfl⟩
    have PT2 := Lib.hid (fun (u : World) (x : Ext X u) => (PT.out u x).mono (fun e w' h => (show ∃ B c' kk, e = .returned (.slice B nl c') ∧ EntRd w' B (putE s.lst key val) kk ∧ (∀ p ∈ kk.zip (putE s.lst key val), ∀ a, p.1.1 = some a → G a.block ∧ a.block ≠ gk) ∧ (∀ a, B = some a → u.heap.size ≤ a.block ∧ a.block < w'.heap.size) ∧ Ext u w' from by rw [← Hnl.out]; exact h)))
    go_upto_region 28 with fail
    go_region_with (refine (PT2.out _ (by first | exact Ext.refl X | exact (Ext.refl X).drew | exact (Ext.refl X).drew.drew)).mono ?_; rintro e Y ⟨B, bc, kk, rfl, hR, hP, hB, y5⟩; have HR := Lib.hid hR; have HP := Lib.hid hP; have HB := Lib.hid hB; have YX := Lib.hid ((Ext.refl X).drew.drew.trans y5); obtain ⟨w1c, hw1c⟩ := (D1.out.ext YX.out).1.get (i := 1) (by omega); have w1f := (D1.out.ext YX.out).1.frz 1; have hYs : X.heap.size ≤ Y.heap.size := YX.out.size; clear hR hP hB y5)
    all_goals
      obtain ⟨Q, hQ⟩ : ∃ Q, Y.setCell ⟨gk, 1, none⟩ (.slice B nl bc) = Q := ⟨_, rfl⟩
      have hBX : ∀ a, B = some a → X.heap.size ≤ a.block ∧ a.block < Y.heap.size := fun a ha => ⟨Nat.le_trans (by first | exact Nat.le_refl _ | exact YX.out.size) (HB.out a ha).1, (HB.out a ha).2⟩
      have D2 := Lib.hid (show DocAt Q (fun i => G i ∨ (W.heap.size ≤ i ∧ i < Y.heap.size)) gk { s with ver := vn, lst := putE s.lst key val } by
        rw [← hQ, ← Hnl.out]
        exact ((D1.out.ext YX.out).more (fun i e => .inl e) (fun i e => e.elim (fun e => Nat.lt_of_lt_of_le (D1.out.2.2.2.2.2 i e) hYs) (fun e => e.2))).setLst HR.out (fun a ha => ⟨.inr ⟨Nat.le_trans hXs (hBX a ha).1, (hBX a ha).2⟩, fun e => by have h1 := (hBX a ha).1; have h2 := XW.out.size; omega⟩) (fun p hp a ha => ⟨.inl (HP.out p hp a ha).1, (HP.out p hp a ha).2⟩))
      have gQ : GB Y Q (· = gk) := by rw [← hQ]; exact (GB.refl Y (· = gk)).set _ _ _ (.inl rfl)
      have GQ := Lib.hid ((GX.out.ext YX.out).trans gQ (fun i e => .inl e))
      have KZQ := Lib.hid (gQ.blk (blk_ext KZX.out YX.out) (by omega : w.heap.size ≠ gk))
      have D2x := Lib.hid (D2.out.ext (Ext.refl Q).drew)
      first | rw [hQ] | rw [show (Y.setCell ⟨gk, 1, none⟩ (.slice B nl bc)).drew = Q.drew by rw [hQ]]
      clear hQ gQ x0 x1 x2 x5 hw1c w1f
      have EN := Lib.hid (fun (u : World) (x : Ext Q u) => dend_any u _ gk who _ 0 (val) (D2.out.ext x) hw)
      go_wp2_with fail
      refine (EN.out _ (by first | exact Ext.refl Q | exact (Ext.refl Q).drew)).mono ?_
      rintro e w5 ⟨rfl, hg5⟩
      have HG5 := Lib.hid (DocGo.backx (w0 := Q) (by first | exact Ext.refl Q | exact (Ext.refl Q).drew) hg5)
      clear hg5
      have KZ5 := Lib.hid (show w5.heap[w.heap.size]? = _ from by obtain ⟨G', _, g, _⟩ := HG5.out; exact g.blk KZQ.out (by omega))
      have t0 := blk_cell KZ5.out 0; have t1 := blk_cell KZ5.out 1; have t2 := blk_cell KZ5.out 2; have f0 := blk_frozen KZ5.out 0; have f1 := blk_frozen KZ5.out 1; have f2 := blk_frozen KZ5.out 2
      go_wp2_with fail
      refine bodyPost_ret (results_row_tmp (p := 4) (u := 5) rfl _ _ w.heap.size _ #[.bool true, .int .i64 0, .int .i64 val] (0, 0) _ rfl (row3 KZ5.out _ _ _) Try.underlying86 (by rfl) (by kernel_rfl)) rfl ?_
      have FIN := dgo_res H.out XW.out (blk_lt KZ.out) (DocGo.onto GQ.out (fun i e => .inl e) (fun i e => e.imp id (fun e => e.1)) HG5.out) (.bool true) (.int .i64 0) (.int .i64 (val))
      rw [← Hvn.out] at FIN
      exact ⟨rfl, FIN⟩

set_option maxHeartbeats 4000000 in
set_option maxRecDepth 100000 in
theorem dstep_f3 (w : World) (G : Nat → Prop) (gk who : Nat) (key : List Nat) (val : Int) (ml : List Ent) (nu : Int) (s : SSt) (h : DocAt w G gk s) (hi : SInv s) (hw : who < 64) (he : s.call who = .swap 3 key val s.ver ml nu) (hvb : s.ver ≤ 1000000) :
    Calls Try.prog 43 #[.pointer (some ⟨gk, 0, none⟩), .int .i64 (who : Int)] w (DStepR w G gk ({ s with ver := s.ver + 1, lst := putE s.lst key (min (getE s.lst key + val) 4611686018427387903) }.put who .idle, ⟨true, 0, min (getE s.lst key + val) 4611686018427387903⟩)) := by
  have a1 : ¬ (who : Int) < 0 := by omega
  have a2 : ¬ (63 : Int) < (who : Int) := by omega
  have a3 : (0 : Int) ≤ (who : Int) := by omega
  have a4 : (who : Int) < 64 := by omega
  obtain ⟨W, hW⟩ : ∃ W, w.alloc (.cells #[.bool false, .int .i64 0, .int .i64 0] 86) = W := ⟨_, rfl⟩
  have xW : Ext w W := by rw [← hW]; exact (Ext.refl w).alloc _
  have KZ := Lib.hid (show W.heap[w.heap.size]? = some (.cells #[.bool false, .int .i64 0, .int .i64 0] 86 (0, 0)) by rw [← hW]; exact blk_new w _)
  have DW := Lib.hid (h.ext xW); have H := Lib.hid h; have XW := Lib.hid xW; have HI := Lib.hid hi
  have hask : AskOk 3 key val := by have := hi.2.2 who; rw [he] at this; exact this.1
  have hgk : gk < w.heap.size := h.2.2.2.2.2 gk h.2.2.2.2.1
  obtain ⟨d1, d2, ⟨LA, lc, lks, d3, d4, d5, d6⟩, d7, d8, d9⟩ := DW.out
  obtain ⟨k1, k2, k3⟩ := d7 who hw
  obtain ⟨K, kc, k4, k5, k6, k7, k8⟩ := k3 3 key val (by rw [he]; rfl)
  rw [he] at k1 k2
  have c0 : W.cell? ⟨gk, 2 + who * 4, none⟩ = some (.int .u8 3) := k1
  have c3 : W.cell? ⟨gk, 2 + who * 4 + 3, none⟩ = some (.int .i64 (s.ver : Int)) := k2
  obtain ⟨n, Hn⟩ : ∃ n, Hid (s.lst.length = n) := ⟨_, rfl⟩
  obtain ⟨m, Hm⟩ : ∃ m, Hid (key.length = m) := ⟨_, rfl⟩
  have hn : n ≤ 4096 := by rw [← Hn.out]; exact hi.1.2.2
  have hm : m ≤ 256 := by rw [← Hm.out]; exact hask.2.2.1
  rw [Hn.out] at d3
  rw [Hm.out] at k4 k6
  have FD := Lib.hid (fun u (x : Ext W u) => rfind_any u LA K n lc m kc s.lst lks key Hn.out hi.1 (d4.ext x) Hm.out (by omega) hask.2.2.2.1 (k7.ext x))
  obtain ⟨fi, Hfi⟩ : ∃ x, Hid (findI s.lst key = x) := ⟨_, rfl⟩
  rw [Hfi.out] at FD
  have HE := Lib.hid he; have HASK := Lib.hid hask; have LE := Lib.hid d4; have L5 := Lib.hid d5; have L6 := Lib.hid d6; have K7 := Lib.hid k7; have K8 := Lib.hid k8
  clear h xW hi he hask d1 d4 d5 d6 d7 d8 d9 k1 k2 k3 k7 k8
  go_enter Try.func43, Try.ntmps43
  go_upto_region 1 with fail
  (try rw [hW])
  clear hW
  go_upto_region 6 with fail
  go_region_held3 (fun u => u.cell? ⟨gk, 1, none⟩ = some (.slice LA n lc) ∧ u.cell? ⟨gk, 2 + who * 4 + 1, none⟩ = some (.slice K m kc))
    (((try dsimp only); refine ⟨?_, ?_⟩ <;> first | (with_reducible exact drew_cell d3) | (with_reducible exact drew_cell k4) | (with_reducible assumption)))
    ((go_at_call 71; (with_reducible refine (FD.out _ (by first | exact Ext.refl W | exact (Ext.refl W).drew)).mono ?_); rintro e V ⟨rfl, xV⟩; have XV := Lib.hid ((Ext.refl W).drew.trans xV); have e0 := ext_cell XV.out c0; have e1 := ext_cell XV.out k4; have e2 := ext_cell XV.out k5; have e3 := ext_cell XV.out c3; have e4 := ext_cell XV.out d2; have e5 := ext_cell XV.out d3; have KZV := Lib.hid (blk_ext KZ.out XV.out); have DV := Lib.hid (DW.out.ext XV.out); clear xV))
  all_goals
    have hv0 : ((s.ver : Int) == 0) = false := by have := HI.out.2.1; simpa using (by omega : (s.ver : Int) ≠ 0)
    obtain ⟨vn, hvn⟩ : ∃ x, s.ver + 1 = x := ⟨_, rfl⟩
    have hw9 : IntKind.i64.wrap ((s.ver : Int) + 1) = (vn : Int) := by rw [IntKind.wrap_i64]; omega
    have f4 := DV.out.1.frz 0
    go_upto_region 16 with fail
    go_region
    go_upto_region 20 with fail
    obtain ⟨X, hX⟩ : ∃ X, V.setCell ⟨gk, 0, none⟩ (.int .i64 (vn : Int)) = X := ⟨_, rfl⟩
    have D1 := Lib.hid (show DocAt X G gk { s with ver := vn } by rw [← hX]; exact DV.out.setVer vn)
    have gX : GB V X (· = gk) := by rw [← hX]; exact (GB.refl V (· = gk)).set _ _ _ (.inl rfl)
    have KZX := Lib.hid (gX.blk KZV.out (by omega : w.heap.size ≠ gk))
    have GX := Lib.hid (GB.back XV.out gX)
    have x0 := cell_off (j := 0) (u := .int .i64 (vn : Int)) e0 (by omega); have x1 := cell_off (j := 0) (u := .int .i64 (vn : Int)) e1 (by omega); have x2 := cell_off (j := 0) (u := .int .i64 (vn : Int)) e2 (by omega); have x5 := cell_off (j := 0) (u := .int .i64 (vn : Int)) e5 (by omega)
    rw [hX] at x0 x1 x2 x5
    have hXs : W.heap.size ≤ X.heap.size := Nat.le_trans XV.out.size gX.size
    have Hvn := Lib.hid hvn
    first | rw [hX] | rw [show (V.setCell ⟨gk, 0, none⟩ (.int .i64 (vn : Int))).drew = X.drew by rw [hX]]
    have LX := Lib.hid (show EntRd X LA s.lst lks from EntRd.of LE.out.1 (gX.rd (LE.out.ext XV.out).2.1 (fun p hp e => (L5.out p hp).2 e)) (fun p hp => ⟨(LE.out.keys p hp).1, gX.rd ((LE.out.ext XV.out).keys p hp).2 (fun a ha e => (L6.out p hp a ha).2 e)⟩))
    have KX := Lib.hid (show Rd X K (vals .u8 key) from gX.rd (K7.out.ext XV.out) (fun p hp e => (K8.out p hp).2 e))
    clear hX gX hw9 e0 e1 e2 e3 e4 e5 f4 hvn
    obtain ⟨z, hz⟩ : ∃ z, min (getE s.lst key + val) 4611686018427387903 = z := ⟨_, rfl⟩
    have hg9 := get_ok (k := key) HI.out.1.2.1
    have hv9 := HASK.out.2.2.2.2 (by omega)
    have HZ := Lib.hid hz
    obtain ⟨gn, Hgn⟩ : ∃ gn : Nat, Hid (getE s.lst key = (gn : Int)) := ⟨(getE s.lst key).toNat, show getE s.lst key = _ by omega⟩
    obtain ⟨wn, hwn⟩ : ∃ wn : Nat, val = (wn : Int) := ⟨val.toNat, by omega⟩
    rw [hwn] at x2 hv9 hz
    rw [Hgn.out] at hz hg9
    have VL := Lib.hid (fun (u : World) (x : Ext X u) => rvalue_any u LA K n lc m kc s.lst lks key Hn.out HI.out.1 (LX.out.ext x) Hm.out (by omega) HASK.out.2.2.2.1 (KX.out.ext x))
    rw [Hgn.out] at VL
    have AD := Lib.hid (fun (u : World) => radd_any gn wn u hg9.2 hv9.2)
    rw [hz] at AD
    have Hwn := Lib.hid hwn
    clear hz hg9 hv9 hwn
    go_upto_region 23 with fail
    go_region_held3 (fun u => u.cell? ⟨gk, 1, none⟩ = some (.slice LA n lc) ∧ u.cell? ⟨gk, 2 + who * 4 + 1, none⟩ = some (.slice K m kc) ∧ u.cell? ⟨gk, 2 + who * 4 + 2, none⟩ = some (.int .i64 (wn : Int)))
      (((try dsimp only); refine ⟨?_, ?_, ?_⟩ <;> first | (with_reducible exact drew_cell x5) | (with_reducible exact drew_cell x1) | (with_reducible exact drew_cell x2) | (with_reducible exact drew_cell (drew_cell x5)) | (with_reducible exact drew_cell (drew_cell x1)) | (with_reducible exact drew_cell (drew_cell x2)) | (with_reducible assumption)))
      (first
        | (go_at_call 74; (with_reducible refine (VL.out _ (by first | exact Ext.refl X | exact (Ext.refl X).drew | exact (Ext.refl X).drew.drew)).mono ?_); rintro e Y1 ⟨rfl, y1⟩; have Y1X := Lib.hid ((Ext.refl X).drew.drew.trans y1); have q5 := ext_cell Y1X.out x5; have q1 := ext_cell Y1X.out x1; have q2 := ext_cell Y1X.out x2; clear y1)
        | (go_at_call 73; (with_reducible refine (AD.out _).mono ?_); rintro e Z ⟨rfl, y2⟩; have ZX := Lib.hid (Y1X.out.trans y2); have u5 := ext_cell ZX.out x5; have u1 := ext_cell ZX.out x1; have u2 := ext_cell ZX.out x2; clear y2))
    all_goals
      have PT := Lib.hid (fun (u : World) (x : Ext X u) => rput_any u LA K n lc m kc z s.lst lks key Hn.out HI.out.1 (LX.out.ext x) Hm.out hm k6 HASK.out.2.2.2.1 (KX.out.ext x) (fun q _ => ∀ a, q.1 = some a → G a.block ∧ a.block ≠ gk) L6.out K8.out)
      obtain ⟨nl, Hnl⟩ : ∃ x, Hid ((putE s.lst key z).length = x) := ⟨_, rfl⟩
      have PT2 := Lib.hid (fun (u : World) (x : Ext X u) => (PT.out u x).mono (fun e w' h => (show ∃ B c' kk, e = .returned (.slice B nl c') ∧ EntRd w' B (putE s.lst key z) kk ∧ (∀ p ∈ kk.zip (putE s.lst key z), ∀ a, p.1.1 = some a → G a.block ∧ a.block ≠ gk) ∧ (∀ a, B = some a → u.heap.size ≤ a.block ∧ a.block < w'.heap.size) ∧ Ext u w' from by rw [← Hnl.out]; exact h)))
      go_upto_region 28 with fail
      go_region_with (refine (PT2.out _ (by first | exact ZX.out | exact ZX.out.drew | exact ZX.out.drew.drew)).mono ?_; rintro e Y ⟨B, bc, kk, rfl, hR, hP, hB, y5⟩; have HR := Lib.hid hR; have HP := Lib.hid hP; have HB := Lib.hid hB; have YX := Lib.hid (Ext.trans (by first | exact ZX.out | exact ZX.out.drew | exact ZX.out.drew.drew) y5); obtain ⟨w1c, hw1c⟩ := (D1.out.ext YX.out).1.get (i := 1) (by omega); have w1f := (D1.out.ext YX.out).1.frz 1; have hYs : X.heap.size ≤ Y.heap.size := YX.out.size; clear hR hP hB y5)
      all_goals
        obtain ⟨Q, hQ⟩ : ∃ Q, Y.setCell ⟨gk, 1, none⟩ (.slice B nl bc) = Q := ⟨_, rfl⟩
        have hBX : ∀ a, B = some a → X.heap.size ≤ a.block ∧ a.block < Y.heap.size := fun a ha => ⟨Nat.le_trans (by first | exact Nat.le_refl _ | exact ZX.out.size) (HB.out a ha).1, (HB.out a ha).2⟩
        have D2 := Lib.hid (show DocAt Q (fun i => G i ∨ (W.heap.size ≤ i ∧ i < Y.heap.size)) gk { s with ver := vn, lst := putE s.lst key z } by
          rw [← hQ, ← Hnl.out]
          exact ((D1.out.ext YX.out).more (fun i e => .inl e) (fun i e => e.elim (fun e => Nat.lt_of_lt_of_le (D1.out.2.2.2.2.2 i e) hYs) (fun e => e.2))).setLst HR.out (fun a ha => ⟨.inr ⟨Nat.le_trans hXs (hBX a ha).1, (hBX a ha).2⟩, fun e => by have h1 := (hBX a ha).1; have h2 := XW.out.size; omega⟩) (fun p hp a ha => ⟨.inl (HP.out p hp a ha).1, (HP.out p hp a ha).2⟩))
        have gQ : GB Y Q (· = gk) := by rw [← hQ]; exact (GB.refl Y (· = gk)).set _ _ _ (.inl rfl)
        have GQ := Lib.hid ((GX.out.ext YX.out).trans gQ (fun i e => .inl e))
        have KZQ := Lib.hid (gQ.blk (blk_ext KZX.out YX.out) (by omega : w.heap.size ≠ gk))
        have D2x := Lib.hid (D2.out.ext (Ext.refl Q).drew)
        first | rw [hQ] | rw [show (Y.setCell ⟨gk, 1, none⟩ (.slice B nl bc)).drew = Q.drew by rw [hQ]]
        clear hQ gQ x0 x1 x2 x5 hw1c w1f u1 u5 u2 q1 q2 q5
        have EN := Lib.hid (fun (u : World) (x : Ext Q u) => dend_any u _ gk who _ 0 (z) (D2.out.ext x) hw)
        go_wp2_with fail
        refine (EN.out _ (by first | exact Ext.refl Q | exact (Ext.refl Q).drew)).mono ?_
        rintro e w5 ⟨rfl, hg5⟩
        have HG5 := Lib.hid (DocGo.backx (w0 := Q) (by first | exact Ext.refl Q | exact (Ext.refl Q).drew) hg5)
        clear hg5
        have KZ5 := Lib.hid (show w5.heap[w.heap.size]? = _ from by obtain ⟨G', _, g, _⟩ := HG5.out; exact g.blk KZQ.out (by omega))
        have t0 := blk_cell KZ5.out 0; have t1 := blk_cell KZ5.out 1; have t2 := blk_cell KZ5.out 2; have f0 := blk_frozen KZ5.out 0; have f1 := blk_frozen KZ5.out 1; have f2 := blk_frozen KZ5.out 2
        go_wp2_with fail
        refine bodyPost_ret (results_row_tmp (p := 4) (u := 5) rfl _ _ w.heap.size _ #[.bool true, .int .i64 0, .int .i64 z] (0, 0) _ rfl (row3 KZ5.out _ _ _) Try.underlying86 (by rfl) (by kernel_rfl)) rfl ?_
        have FIN := dgo_res H.out XW.out (blk_lt KZ.out) (DocGo.onto GQ.out (fun i e => .inl e) (fun i e => e.imp id (fun e => e.1)) HG5.out) (.bool true) (.int .i64 0) (.int .i64 (z))
        rw [← Hvn.out] at FIN
        rw [← HZ.out] at FIN ⊢
        exact ⟨rfl, FIN⟩

set_option maxHeartbeats 4000000 in
set_option maxRecDepth 100000 in
theorem dstep_f4 (w : World) (G : Nat → Prop) (gk who : Nat) (key : List Nat) (val : Int) (ml : List Ent) (nu : Int) (s : SSt) (h : DocAt w G gk s) (hi : SInv s) (hw : who < 64) (he : s.call who = .swap 4 key val s.ver ml nu) (hh : hasE s.lst key = true) (hvb : s.ver ≤ 1000000) :
    Calls Try.prog 43 #[.pointer (some ⟨gk, 0, none⟩), .int .i64 (who : Int)] w (DStepR w G gk ({ s with ver := s.ver + 1, lst := dropE s.lst key }.put who .idle, ⟨true, 0, getE s.lst key⟩)) := by
  have a1 : ¬ (who : Int) < 0 := by omega
  have a2 : ¬ (63 : Int) < (who : Int) := by omega
  have a3 : (0 : Int) ≤ (who : Int) := by omega
  have a4 : (who : Int) < 64 := by omega
  obtain ⟨W, hW⟩ : ∃ W, w.alloc (.cells #[.bool false, .int .i64 0, .int .i64 0] 86) = W := ⟨_, rfl⟩
  have xW : Ext w W := by rw [← hW]; exact (Ext.refl w).alloc _
  have KZ := Lib.hid (show W.heap[w.heap.size]? = some (.cells #[.bool false, .int .i64 0, .int .i64 0] 86 (0, 0)) by rw [← hW]; exact blk_new w _)
  have DW := Lib.hid (h.ext xW); have H := Lib.hid h; have XW := Lib.hid xW; have HI := Lib.hid hi
  have hask : AskOk 4 key val := by have := hi.2.2 who; rw [he] at this; exact this.1
  have hgk : gk < w.heap.size := h.2.2.2.2.2 gk h.2.2.2.2.1
  obtain ⟨d1, d2, ⟨LA, lc, lks, d3, d4, d5, d6⟩, d7, d8, d9⟩ := DW.out
  obtain ⟨k1, k2, k3⟩ := d7 who hw
  obtain ⟨K, kc, k4, k5, k6, k7, k8⟩ := k3 4 key val (by rw [he]; rfl)
  rw [he] at k1 k2
  have c0 : W.cell? ⟨gk, 2 + who * 4, none⟩ = some (.int .u8 4) := k1
  have c3 : W.cell? ⟨gk, 2 + who * 4 + 3, none⟩ = some (.int .i64 (s.ver : Int)) := k2
  obtain ⟨n, Hn⟩ : ∃ n, Hid (s.lst.length = n) := ⟨_, rfl⟩
  obtain ⟨m, Hm⟩ : ∃ m, Hid (key.length = m) := ⟨_, rfl⟩
  have hn : n ≤ 4096 := by rw [← Hn.out]; exact hi.1.2.2
  have hm : m ≤ 256 := by rw [← Hm.out]; exact hask.2.2.1
  rw [Hn.out] at d3
  rw [Hm.out] at k4 k6
  have FD := Lib.hid (fun u (x : Ext W u) => rfind_any u LA K n lc m kc s.lst lks key Hn.out hi.1 (d4.ext x) Hm.out (by omega) hask.2.2.2.1 (k7.ext x))
  have hlt := has_lt hh
  obtain ⟨gv, hv9, hg⟩ := has_get hh
  rw [Hn.out] at hlt
  obtain ⟨b, off, K1, kc1, hA1, -, -, g1, -, -⟩ := d4.at_ hv9
  rw [show findI s.lst key = (atE s.lst key : Int) from if_pos hh] at FD
  obtain ⟨a, Ha⟩ : ∃ a, Hid (atE s.lst key = a) := ⟨_, rfl⟩
  rw [Ha.out] at FD hlt g1
  subst hA1
  dsimp only at g1
  have hlt' : (a : Int) < (n : Int) := by omega
  have ha0 : (0 : Int) ≤ (a : Int) := by omega
  have ha1 : ¬ (a : Int) < 0 := by omega
  have HG := Lib.hid hg; have HH := Lib.hid hh
  clear hv9 hg hh
  have HE := Lib.hid he; have HASK := Lib.hid hask; have LE := Lib.hid d4; have L5 := Lib.hid d5; have L6 := Lib.hid d6; have K7 := Lib.hid k7; have K8 := Lib.hid k8
  clear h xW hi he hask d1 d4 d5 d6 d7 d8 d9 k1 k2 k3 k7 k8
  go_enter Try.func43, Try.ntmps43
  go_upto_region 1 with fail
  (try rw [hW])
  clear hW
  go_upto_region 6 with fail
  go_region_held3 (fun u => u.cell? ⟨gk, 1, none⟩ = some (.slice (some ⟨b, off, none⟩) n lc) ∧ u.cell? ⟨gk, 2 + who * 4 + 1, none⟩ = some (.slice K m kc))
    (((try dsimp only); refine ⟨?_, ?_⟩ <;> first | (with_reducible exact drew_cell d3) | (with_reducible exact drew_cell k4) | (with_reducible assumption)))
    ((go_at_call 71; (with_reducible refine (FD.out _ (by first | exact Ext.refl W | exact (Ext.refl W).drew)).mono ?_); rintro e V ⟨rfl, xV⟩; have XV := Lib.hid ((Ext.refl W).drew.trans xV); have e0 := ext_cell XV.out c0; have e1 := ext_cell XV.out k4; have e2 := ext_cell XV.out k5; have e3 := ext_cell XV.out c3; have e4 := ext_cell XV.out d2; have e5 := ext_cell XV.out d3; have KZV := Lib.hid (blk_ext KZ.out XV.out); have DV := Lib.hid (DW.out.ext XV.out); clear xV))
  all_goals
    have hv0 : ((s.ver : Int) == 0) = false := by have := HI.out.2.1; simpa using (by omega : (s.ver : Int) ≠ 0)
    obtain ⟨vn, hvn⟩ : ∃ x, s.ver + 1 = x := ⟨_, rfl⟩
    have hw9 : IntKind.i64.wrap ((s.ver : Int) + 1) = (vn : Int) := by rw [IntKind.wrap_i64]; omega
    have f4 := DV.out.1.frz 0
    go_upto_region 16 with fail
    go_region
    go_upto_region 20 with fail
    obtain ⟨X, hX⟩ : ∃ X, V.setCell ⟨gk, 0, none⟩ (.int .i64 (vn : Int)) = X := ⟨_, rfl⟩
    have D1 := Lib.hid (show DocAt X G gk { s with ver := vn } by rw [← hX]; exact DV.out.setVer vn)
    have gX : GB V X (· = gk) := by rw [← hX]; exact (GB.refl V (· = gk)).set _ _ _ (.inl rfl)
    have KZX := Lib.hid (gX.blk KZV.out (by omega : w.heap.size ≠ gk))
    have GX := Lib.hid (GB.back XV.out gX)
    have x0 := cell_off (j := 0) (u := .int .i64 (vn : Int)) e0 (by omega); have x1 := cell_off (j := 0) (u := .int .i64 (vn : Int)) e1 (by omega); have x2 := cell_off (j := 0) (u := .int .i64 (vn : Int)) e2 (by omega); have x5 := cell_off (j := 0) (u := .int .i64 (vn : Int)) e5 (by omega)
    rw [hX] at x0 x1 x2 x5
    have hXs : W.heap.size ≤ X.heap.size := Nat.le_trans XV.out.size gX.size
    have Hvn := Lib.hid hvn
    first | rw [hX] | rw [show (V.setCell ⟨gk, 0, none⟩ (.int .i64 (vn : Int))).drew = X.drew by rw [hX]]
    have LX := Lib.hid (show EntRd X (some ⟨b, off, none⟩) s.lst lks from EntRd.of LE.out.1 (gX.rd (LE.out.ext XV.out).2.1 (fun p hp e => (L5.out p hp).2 e)) (fun p hp => ⟨(LE.out.keys p hp).1, gX.rd ((LE.out.ext XV.out).keys p hp).2 (fun a ha e => (L6.out p hp a ha).2 e)⟩))
    have KX := Lib.hid (show Rd X K (vals .u8 key) from gX.rd (K7.out.ext XV.out) (fun p hp e => (K8.out p hp).2 e))
    clear hX gX hw9 e0 e1 e2 e3 e4 e5 f4 hvn
    have VL := Lib.hid (fun (u : World) (x : Ext X u) => rvalue_any u (some ⟨b, off, none⟩) K n lc m kc s.lst lks key Hn.out HI.out.1 (LX.out.ext x) Hm.out (by omega) HASK.out.2.2.2.1 (KX.out.ext x))
    rw [HG.out] at VL
    go_upto_region 25 with fail
    go_region_held3 (fun u => u.cell? ⟨gk, 1, none⟩ = some (.slice (some ⟨b, off, none⟩) n lc) ∧ u.cell? ⟨gk, 2 + who * 4 + 1, none⟩ = some (.slice K m kc))
      (((try dsimp only); refine ⟨?_, ?_⟩ <;> first | (with_reducible exact drew_cell x5) | (with_reducible exact drew_cell x1) | (with_reducible exact drew_cell (drew_cell x5)) | (with_reducible exact drew_cell (drew_cell x1)) | (with_reducible assumption)))
      ((go_at_call 74; (with_reducible refine (VL.out _ (by first | exact Ext.refl X | exact (Ext.refl X).drew | exact (Ext.refl X).drew.drew)).mono ?_); rintro e Z ⟨rfl, y2⟩; have ZX := Lib.hid ((Ext.refl X).drew.drew.trans y2); have u5 := ext_cell ZX.out x5; have u1 := ext_cell ZX.out x1; clear y2))
    all_goals
      have PT := Lib.hid (fun (u : World) (x : Ext X u) => rdrop_any u (some ⟨b, off, none⟩) K n lc m kc s.lst lks key Hn.out HI.out.1 (LX.out.ext x) Hm.out hm k6 HASK.out.2.2.2.1 (KX.out.ext x) (fun q _ => ∀ a, q.1 = some a → G a.block ∧ a.block ≠ gk) L6.out K8.out HH.out)
      obtain ⟨nl, Hnl⟩ : ∃ x, Hid ((dropE s.lst key).length = x) := ⟨_, rfl⟩
      have PT2 := Lib.hid (fun (u : World) (x : Ext X u) => (PT.out u x).mono (fun e w' h => (show ∃ B c' kk, e = .returned (.slice B nl c') ∧ EntRd w' B (dropE s.lst key) kk ∧ (∀ p ∈ kk.zip (dropE s.lst key), ∀ a, p.1.1 = some a → G a.block ∧ a.block ≠ gk) ∧ (∀ a, B = some a → u.heap.size ≤ a.block ∧ a.block < w'.heap.size) ∧ Ext u w' from by rw [← Hnl.out]; exact h)))
      go_upto_region 26 with fail
      go_region_with (refine (PT2.out _ (by first | exact ZX.out | exact ZX.out.drew | exact ZX.out.drew.drew)).mono ?_; rintro e Y ⟨B, bc, kk, rfl, hR, hP, hB, y5⟩; have HR := Lib.hid hR; have HP := Lib.hid hP; have HB := Lib.hid hB; have YX := Lib.hid (Ext.trans (by first | exact ZX.out | exact ZX.out.drew | exact ZX.out.drew.drew) y5); obtain ⟨w1c, hw1c⟩ := (D1.out.ext YX.out).1.get (i := 1) (by omega); have w1f := (D1.out.ext YX.out).1.frz 1; have hYs : X.heap.size ≤ Y.heap.size := YX.out.size; clear hR hP hB y5)
      all_goals
        obtain ⟨Q, hQ⟩ : ∃ Q, Y.setCell ⟨gk, 1, none⟩ (.slice B nl bc) = Q := ⟨_, rfl⟩
        have hBX : ∀ a, B = some a → X.heap.size ≤ a.block ∧ a.block < Y.heap.size := fun a ha => ⟨Nat.le_trans (by first | exact Nat.le_refl _ | exact ZX.out.size) (HB.out a ha).1, (HB.out a ha).2⟩
        have D2 := Lib.hid (show DocAt Q (fun i => G i ∨ (W.heap.size ≤ i ∧ i < Y.heap.size)) gk { s with ver := vn, lst := dropE s.lst key } by
          rw [← hQ, ← Hnl.out]
          exact ((D1.out.ext YX.out).more (fun i e => .inl e) (fun i e => e.elim (fun e => Nat.lt_of_lt_of_le (D1.out.2.2.2.2.2 i e) hYs) (fun e => e.2))).setLst HR.out (fun a ha => ⟨.inr ⟨Nat.le_trans hXs (hBX a ha).1, (hBX a ha).2⟩, fun e => by have h1 := (hBX a ha).1; have h2 := XW.out.size; omega⟩) (fun p hp a ha => ⟨.inl (HP.out p hp a ha).1, (HP.out p hp a ha).2⟩))
        have gQ : GB Y Q (· = gk) := by rw [← hQ]; exact (GB.refl Y (· = gk)).set _ _ _ (.inl rfl)
        have GQ := Lib.hid ((GX.out.ext YX.out).trans gQ (fun i e => .inl e))
        have KZQ := Lib.hid (gQ.blk (blk_ext KZX.out YX.out) (by omega : w.heap.size ≠ gk))
        have D2x := Lib.hid (D2.out.ext (Ext.refl Q).drew)
        first | rw [hQ] | rw [show (Y.setCell ⟨gk, 1, none⟩ (.slice B nl bc)).drew = Q.drew by rw [hQ]]
        clear hQ gQ x0 x1 x2 x5 hw1c w1f u1 u5
        have EN := Lib.hid (fun (u : World) (x : Ext Q u) => dend_any u _ gk who _ 0 (gv) (D2.out.ext x) hw)
        go_wp2_with fail
        refine (EN.out _ (by first | exact Ext.refl Q | exact (Ext.refl Q).drew)).mono ?_
        rintro e w5 ⟨rfl, hg5⟩
        have HG5 := Lib.hid (DocGo.backx (w0 := Q) (by first | exact Ext.refl Q | exact (Ext.refl Q).drew) hg5)
        clear hg5
        have KZ5 := Lib.hid (show w5.heap[w.heap.size]? = _ from by obtain ⟨G', _, g, _⟩ := HG5.out; exact g.blk KZQ.out (by omega))
        have t0 := blk_cell KZ5.out 0; have t1 := blk_cell KZ5.out 1; have t2 := blk_cell KZ5.out 2; have f0 := blk_frozen KZ5.out 0; have f1 := blk_frozen KZ5.out 1; have f2 := blk_frozen KZ5.out 2
        go_wp2_with fail
        refine bodyPost_ret (results_row_tmp (p := 4) (u := 5) rfl _ _ w.heap.size _ #[.bool true, .int .i64 0, .int .i64 gv] (0, 0) _ rfl (row3 KZ5.out _ _ _) Try.underlying86 (by rfl) (by kernel_rfl)) rfl ?_
        have FIN := dgo_res H.out XW.out (blk_lt KZ.out) (DocGo.onto GQ.out (fun i e => .inl e) (fun i e => e.imp id (fun e => e.1)) HG5.out) (.bool true) (.int .i64 0) (.int .i64 (gv))
        rw [← Hvn.out] at FIN
        rw [HG.out]
        exact ⟨rfl, FIN⟩
end Go.Proofs.Ytlgggeeflomelaa
