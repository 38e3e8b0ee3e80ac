/- spigotlaw13: run. -/
import Derived.Test.YtlgggeeflomelaaEpN
import Derived.Deep.LoopGhost
import Derived.Deep.CutBlock
namespace Go.Proofs.Ytlgggeeflomelaa
open Go.RowKit

theorem run_succ (n who m : Nat) (s : ESt) : eRun n who (m + 1) s = if (eStep n s who).2.done = true then eStep n s who else eRun n who m (eStep n s who).1 := rfl
set_option maxHeartbeats 4000000 in
set_option maxRecDepth 100000 in
theorem erun_ok' (w0 w : World) (F : Nat → Prop) (gx n k who op : Nat) (thing : Int) (s : ESt) (h : EpIn w0 F gx n k s w) (hw : who < n) (h1 : 1 ≤ op) (h5 : op ≤ 5) (he : startErr s who op = 0) (hk : k ≤ 50000) :
    Calls Try.prog 20 #[.pointer (some ⟨gx, 0, none⟩), .int .i64 (who : Int), .int .u8 (op : Int), .int .i64 thing] w (StepIn w0 w F gx n (k + (n + 3)) (eRun n who 100 (s.put who { s.wk who with call := .begun op thing })) (.bool true)) := by
  obtain ⟨W, hW⟩ : ∃ W, w.alloc (.cells #[.bool false, .int .i64 0, .int .i64 0, .slice none 0 0] 36) = W := ⟨_, rfl⟩
  have xW : Ext w W := by rw [← hW]; exact (Ext.refl w).alloc _
  have KR := Lib.hid (show W.heap[w.heap.size]? = some (.cells #[.bool false, .int .i64 0, .int .i64 0, .slice none 0 0] 36 (0, 0)) by rw [← hW]; exact blk_new w _)
  have ST0 := ein_start w0 W F gx n k who op thing s (h.ext xW) hw h1 h5
  unfold startSt at ST0
  rw [if_pos he, he] at ST0
  have ST := Lib.hid ST0
  obtain ⟨hI, _, _, hn⟩ := h.inv
  obtain ⟨hi0, hp0, hu0⟩ := start_idle he
  have hI1 := einv_start (thing := thing) hI hw hi0 h1 h5 hp0 hu0
  obtain ⟨s1, hs1⟩ : ∃ s1, s.put who { s.wk who with call := .begun op thing } = s1 := ⟨_, rfl⟩
  have hc1 : (s1.wk who).call = .begun op thing := by rw [← hs1, put_self]
  rw [hs1] at ST hI1 ⊢
  have hl1 : leftOf n s1 who ≤ n + 3 := by
    unfold leftOf
    rw [hc1]
    show (if op = 1 then 3 else if op = 4 then n + 2 else 1) ≤ n + 3
    split
    · omega
    · split <;> omega
  have hb1 : (s1.wk who).call ≠ .idle := by rw [hc1]; exact fun h => by cases h
  have HLT := Lib.hid h.lt
  have H0 := Lib.hid h.out.size
  obtain ⟨P, hP⟩ : ∃ P, eRun n who 100 s1 = P := ⟨_, rfl⟩
  rw [hP]
  have HP := Lib.hid hP
  have HI1 := Lib.hid hI1; have HL1 := Lib.hid hl1; have HB1 := Lib.hid hb1
  clear ST0 h hI hi0 hp0 hu0 hs1 hc1 hl1 hb1 hI1 hP he
  go_enter Try.func20, Try.ntmps20
  go_wp2_with fail
  (try rw [hW])
  clear hW
  refine ST.out.mono ?_
  rintro e w1 ⟨rfl, F1, i1, g1, f1⟩
  have IN1 := Lib.hid i1; have G1 := Lib.hid g1; have FF1 := Lib.hid f1
  clear i1 g1 f1
  go_wp2_with fail
  go_loopw [19] (fun i wr => ∃ (j : Nat) (s' : ESt) (F' : Nat → Prop), i = .int .i64 (j : Int) ∧ EpIn w0 F' gx n (k + j) s' wr ∧ (s'.wk who).call ≠ .idle ∧ leftOf n s' who + j ≤ n + 3 ∧ eRun n who (100 - j) s' = P ∧ GB W wr F ∧ ∀ i, F' i → F i ∨ W.heap.size ≤ i) (fun i _ => 100 - (intOf i).toNat)
  case atStart => exact ⟨0, s1, F1, rfl, IN1.out, HB1.out, by have := HL1.out; omega, HP.out, G1.out, FF1.out⟩
  case round =>
    obtain ⟨j, s', F', rfl, hin, hb, hlj, hrun, hg, hf⟩ := hrel
    have hpos := left_pos (n := n) hb
    have hj : (j : Int) < 100 := by omega
    have hjn : j < 100 := by omega
    have hsucc : 100 - j = (100 - (j + 1)) + 1 := by omega
    rw [hsucc, run_succ] at hrun
    have hstep := left_step hin.inv.1 hw hb
    have SP := ein_step w0 wr F' gx n (k + j) who s' hin hw hb (by omega)
    obtain ⟨⟨s2, ⟨dn, er, nu, th⟩⟩, hp⟩ : ∃ p, eStep n s' who = p := ⟨_, rfl⟩
    rw [hp] at SP hstep hrun
    have HLJ := Lib.hid hlj
    have HJN := Lib.hid (show j + 1 ≤ n + 3 by omega)
    have SPh := Lib.hid SP; have HST := Lib.hid hstep; have HRUN := Lib.hid hrun; have HG := Lib.hid hg; have HF := Lib.hid hf
    clear SP hstep hrun hg hf hin hb hp hsucc hpos hlj
    go_wp2_with fail
    refine SPh.out.mono ?_
    rintro e w3 ⟨A, m, q, F3, rfl, i3, g3, f3, t3⟩
    have I3 := Lib.hid i3; have G3 := Lib.hid g3; have F3h := Lib.hid f3; have T3 := Lib.hid t3
    have rlt : w.heap.size < W.heap.size := blk_lt KR.out
    have hrF : ¬ F' w.heap.size := fun e => (HF.out _ e).elim (fun e => Nat.lt_irrefl _ (HLT.out _ e)) (fun e => by omega)
    have hrW : W.heap.size ≤ wr.heap.size := HG.out.size
    have KR3 := Lib.hid (blk_past (g3.blk (HG.out.blk KR.out (fun e => Nat.lt_irrefl _ (HLT.out _ e))) hrF) (.cells #[.bool dn, .int .i64 (er : Int), .int .i64 (nu : Int), .slice A m q] 36 (0, 0)))
    clear i3 g3 f3 t3
    cases dn with
    | true =>
      have r0 := blk_cell KR3.out 0; have r1 := blk_cell KR3.out 1; have r2 := blk_cell KR3.out 2; have r3 := blk_cell KR3.out 3
      have z0 := blk_frozen KR3.out 0; have z1 := blk_frozen KR3.out 1; have z2 := blk_frozen KR3.out 2; have z3 := blk_frozen KR3.out 3
      go_wp2_with fail
      refine bodyPost_ret (results_row_tmp (p := 8) (u := 9) rfl _ _ w.heap.size _ #[.bool true, .int .i64 (er : Int), .int .i64 (nu : Int), .slice A m q] (0, 0) _ rfl (row4 KR3.out _ _ _ _) Try.underlying36 (by rfl) (by kernel_rfl)) rfl ?_
      have hPe : P = (s2, ⟨true, er, nu, th⟩) := HRUN.out.symm.trans (if_pos trivial)
      rw [hPe]
      have hnF : ¬ F3 w.heap.size := fun e => (F3h.out _ e).elim hrF (fun e => by omega)
      have gp := put4_gb (w3.alloc (.cells #[.bool true, .int .i64 (er : Int), .int .i64 (nu : Int), .slice A m q] 36 (0, 0))) w.heap.size (.bool true) (.int .i64 (er : Int)) (.int .i64 (nu : Int)) (.slice A m q)
      have xa : Ext w3 (w3.alloc (.cells #[.bool true, .int .i64 (er : Int), .int .i64 (nu : Int), .slice A m q] 36 (0, 0))) := (Ext.refl w3).alloc _
      have gW : GB w wr F := GB.back xW HG.out
      have hFw : ∀ i, F' i → F i ∨ w.heap.size ≤ i := fun i hi => (HF.out i hi).imp id (fun e => by omega)
      have hge := (I3.out.out).size
      have hw0 : w0.heap.size ≤ w.heap.size := H0.out
      refine ⟨A, m, q, F3, rfl, ((I3.out.ext xa).gb gp (fun i hi e => hnF (e ▸ hi)) (fun i e => by omega)).more (by have := HJN.out; omega), ((gW.trans G3.out hFw).ext xa).trans gp (fun i e => .inr (by omega)), fun i hi => (F3h.out i hi).elim (hFw i) (fun e => .inr (by omega)), ?_, T3.out.2⟩
      exact own_base (gp.own (own_ext T3.out.1 xa) (fun i hi e => by have := (T3.out.1.lt i hi).1; omega)) gW.size
    | false =>
      go_wp2_with fail
      go_roundw
      case rel =>
        rcases HST.out with ⟨hd, _⟩ | ⟨_, hb2, hl2, _⟩
        · cases hd
        · exact ⟨j + 1, s2, F3, by go_num, I3.out.ext ((Ext.refl w3).alloc _), hb2, by have h9 := HLJ.out; have h8 : leftOf n s2 who + 1 ≤ leftOf n s' who := hl2; omega, HRUN.out, (HG.out.trans G3.out HF.out).alloc _, fun i hi => (F3h.out i hi).elim (HF.out i) (fun e => .inr (by omega))⟩
      case measure => simp [intOf]; omega
theorem StepIn.more {w0 w w' : World} {F : Nat → Prop} {gx n k k' : Nat} {p : ESt × ERes} {last : Value} {e : Ending} (h : StepIn w0 w F gx n k p last e w') (hk : k ≤ k') : StepIn w0 w F gx n k' p last e w' := by
  obtain ⟨A, m, q, F', h1, h2, h3⟩ := h
  exact ⟨A, m, q, F', h1, h2.more hk, h3⟩
theorem erun_ok (w0 w : World) (F : Nat → Prop) (gx n k who op : Nat) (thing : Int) (s : ESt) (h : EpIn w0 F gx n k s w) (hw : who < n) (h1 : 1 ≤ op) (h5 : op ≤ 5) (he : startErr s who op = 0) (hk : k ≤ 50000) :
    Calls Try.prog 20 #[.pointer (some ⟨gx, 0, none⟩), .int .i64 (who : Int), .int .u8 (op : Int), .int .i64 thing] w (StepIn w0 w F gx n (k + 100) (eRun n who 100 (s.put who { s.wk who with call := .begun op thing })) (.bool true)) := by
  have hn := h.inv.2.2.2
  exact (erun_ok' w0 w F gx n k who op thing s h hw h1 h5 he hk).mono fun _ _ h => h.more (by omega)
set_option maxHeartbeats 1000000 in
set_option maxRecDepth 100000 in
theorem erun_no (w0 w : World) (F : Nat → Prop) (gx n k who op : Nat) (thing : Int) (s : ESt) (h : EpIn w0 F gx n k s w) (hw : who < n) (h1 : 1 ≤ op) (h5 : op ≤ 5) (he : startErr s who op ≠ 0) :
    Calls Try.prog 20 #[.pointer (some ⟨gx, 0, none⟩), .int .i64 (who : Int), .int .u8 (op : Int), .int .i64 thing] w (fun e w' => e = .returned (.tuple #[.agg #[.bool false, .int .i64 0, .int .i64 0, .slice none 0 0], .bool false]) ∧ EinGo w0 w F gx n k s w') := by
  obtain ⟨W, hW⟩ : ∃ W, w.alloc (.cells #[.bool false, .int .i64 0, .int .i64 0, .slice none 0 0] 36) = W := ⟨_, rfl⟩
  have xW : Ext w W := by rw [← hW]; exact (Ext.refl w).alloc _
  have KR := Lib.hid (show W.heap[w.heap.size]? = some (.cells #[.bool false, .int .i64 0, .int .i64 0, .slice none 0 0] 36 (0, 0)) by rw [← hW]; exact blk_new w _)
  have ST0 := ein_start w0 W F gx n k who op thing s (h.ext xW) hw h1 h5
  unfold startSt at ST0
  rw [if_neg he] at ST0
  have hne : (startErr s who op != 0) = true := by rw [bne_iff_ne]; exact he
  obtain ⟨q, hq⟩ : ∃ q, startErr s who op = q := ⟨_, rfl⟩
  rw [hq] at ST0 hne
  have ST := Lib.hid ST0
  have HLT := Lib.hid h.lt; have H0 := Lib.hid h.out.size
  clear ST0 h he hq
  go_enter Try.func20, Try.ntmps20
  go_wp2_with fail
  (try rw [hW])
  clear hW
  refine ST.out.mono ?_
  rintro e w1 ⟨rfl, F1, i1, g1, f1⟩
  have k1 := Lib.hid (g1.blk KR.out (fun e => Nat.lt_irrefl _ (HLT.out _ e)))
  have r0 := blk_cell k1.out 0; have r1 := blk_cell k1.out 1; have r2 := blk_cell k1.out 2; have r3 := blk_cell k1.out 3
  have z0 := blk_frozen k1.out 0; have z1 := blk_frozen k1.out 1; have z2 := blk_frozen k1.out 2; have z3 := blk_frozen k1.out 3
  have I1 := Lib.hid i1; have G1 := Lib.hid g1; have FF := Lib.hid f1
  clear i1 g1 f1
  go_wp2_with fail
  refine bodyPost_ret (results_row_tmp (p := 8) (u := 9) rfl _ _ w.heap.size _ #[.bool false, .int .i64 0, .int .i64 0, .slice none 0 0] (0, 0) _ rfl (row4 k1.out _ _ _ _) Try.underlying36 (by rfl) (by kernel_rfl)) rfl ?_
  have gp := put4_gb w1 w.heap.size (.bool false) (.int .i64 0) (.int .i64 0) (.slice none 0 0)
  have hw0 := H0.out
  have rlt := blk_lt KR.out
  have hn : ¬ F1 w.heap.size := fun e => (FF.out _ e).elim (fun e => Nat.lt_irrefl _ (HLT.out _ e)) (fun e => by omega)
  refine ⟨rfl, F1, I1.out.gb gp (fun i hi e => hn (e ▸ hi)) (fun i e => by omega), (GB.back xW G1.out).trans gp (fun i e => .inr (by omega)), fun i hi => (FF.out i hi).imp id (fun e => by omega)⟩
end Go.Proofs.Ytlgggeeflomelaa
