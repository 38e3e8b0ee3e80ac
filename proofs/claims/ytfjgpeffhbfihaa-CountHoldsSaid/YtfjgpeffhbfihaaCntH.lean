/- count: Step. -/
import Derived.Test.YtfjgpeffhbfihaaCntG
import Derived.Deep.RegionWith
namespace Go.Proofs.Ytfjgpeffhbfihaa
open Go.RowKit

theorem cstep_arg (w : World) (p : Option Addr) (who : Int) (hb : ¬ (0 ≤ who ∧ who < 64)) :
    Calls Try.prog 29 #[.pointer p, .int .i64 who] w (RetE (.tuple #[.agg #[.bool false, .int .i64 0, .int .i64 0], .int .i64 1]) w) := by
  have HB := Lib.hid hb
  clear hb
  go_enter Try.func29, Try.ntmps29
  go_wp2_with fail
  refine (cworker_bad _ who HB.out).mono ?_
  rintro e w1 ⟨rfl, rfl⟩
  go_wp2_with fail
  refine bodyPost_ret (results_row_tmp (p := 4) (u := 5) rfl _ _ w.heap.size _ #[.bool false, .int .i64 0, .int .i64 0] (0, 0) _ rfl (blk_new w _) Try.underlying71 (by rfl) (by kernel_rfl)) rfl ?_
  exact ⟨rfl, (Ext.refl w).alloc _⟩
theorem cstep_nil (w : World) (who : Int) (h1 : 0 ≤ who) (h2 : who < 64) :
    Calls Try.prog 29 #[.pointer none, .int .i64 who] w (RetE (.tuple #[.agg #[.bool false, .int .i64 0, .int .i64 0], .int .i64 7]) w) := by
  go_enter Try.func29, Try.ntmps29
  go_wp2_with fail
  refine (cworker_ok _ who h1 h2).mono ?_
  rintro e w1 ⟨rfl, rfl⟩
  go_wp2_with fail
  refine bodyPost_ret (results_row_tmp (p := 4) (u := 5) rfl _ _ w.heap.size _ #[.bool false, .int .i64 0, .int .i64 0] (0, 0) _ rfl (blk_new w _) Try.underlying71 (by rfl) (by kernel_rfl)) rfl ?_
  exact ⟨rfl, (Ext.refl w).alloc _⟩
set_option maxRecDepth 100000 in
theorem cstep_idle (w : World) (F : Nat → Prop) (gc gm lim val who : Nat) (L : List AccE) (S : Nat → CallS) (h : CntAt w F gc gm lim val L S) (hw : who < 64) (hs : S who = .idle) :
    Calls Try.prog 29 #[.pointer (some ⟨gc, 0, none⟩), .int .i64 (who : Int)] w (RetE (.tuple #[.agg #[.bool false, .int .i64 0, .int .i64 0], .int .i64 7]) w) := by
  have a3 : (0 : Int) ≤ (who : Int) := by omega
  have a4 : (who : Int) < 64 := by omega
  have hq : ∀ (u : World), (binOp .eql 126 .nilFunc .nilFunc).run Try.prog u = .ok (.bool true) u := fun _ => rfl
  have h' := h.ext ((Ext.refl w).alloc (.cells #[.bool false, .int .i64 0, .int .i64 0] 71))
  obtain ⟨_, _, ⟨v, cv, pv⟩, _⟩ := h'.cells hw
  rw [hs] at pv
  obtain rfl : v = .nilFunc := pv
  clear h h' hs
  go_enter Try.func29, Try.ntmps29
  go_wp2_with fail
  refine (cworker_ok _ who a3 a4).mono ?_
  rintro e w1 ⟨rfl, rfl⟩
  go_wp2_with fail
  refine bodyPost_ret (results_row_tmp (p := 4) (u := 5) rfl _ _ w.heap.size _ #[.bool false, .int .i64 0, .int .i64 0] (0, 0) _ rfl (blk_new w _) Try.underlying71 (by rfl) (by kernel_rfl)) rfl ?_
  exact ⟨rfl, (Ext.refl w).alloc _⟩
/-- a pending call's function was called in Step -/
def StepMid (w : World) (F Fm : Nat → Prop) (gc gm lim who : Nat) (ps : List Value) (val' : Nat) (L' : List AccE) (s' : CallS) (d : Bool) (er n : Int) (wd : World) : Prop :=
  ∃ v' F' w3, MachAt w3 F' gm [val'] 0 L' ∧ GB w w3 Fm ∧ (∀ i, F' i → Fm i ∨ w.heap.size + 2 ≤ i) ∧ PendAt w3 (fun i => (F i ∨ i = w.heap.size ∨ i = w.heap.size + 1) ∨ F' i) gc who v' s' ∧ w.heap.size + 2 ≤ w3.heap.size ∧
    GB w3 wd (fun i => i = gc ∨ i = w.heap.size + 1) ∧ wd.heap[gc]? = some (.cells (cntCells gm lim (ps.set who v')) 129 (0, 0)) ∧ wd.heap[w.heap.size + 1]? = some (.cells #[.bool d, .int .i64 er, .int .i64 n] 71 (0, 0)) ∧ wd.heap[w.heap.size]? = some (.cells #[.bool false, .int .i64 0, .int .i64 0] 71 (0, 0))
theorem step_fin {w wd wf : World} {F Fm : Nat → Prop} {gc gm lim who val' : Nat} {ps : List Value} {L' : List AccE} {s' : CallS} {S : Nat → CallS} {d : Bool} {er n : Int} (h : StepMid w F Fm gc gm lim who ps val' L' s' d er n wd) (hps : ps.length = 64) (hgc : ¬ Fm gc)
    (hpend : ∀ i v, ps[i]? = some v → PendAt w F gc i v (S i)) (hgF : F gc) (hFm : ∀ i, Fm i → F i) (hF : ∀ i, F i → i < w.heap.size) (gf : GB wd wf (· = w.heap.size)) : CntGo w F gc gm lim val' L' (updS S who s') wf := by
  obtain ⟨v', F', w3, m, g, f, p, hsz, gs, hb, _, _⟩ := h
  have hgl := hF gc hgF
  have hF' : ∀ i, F' i → i ≠ gc ∧ i ≠ w.heap.size ∧ i ≠ w.heap.size + 1 := fun i hi => by
    rcases f i hi with h | h
    · have h9 := hF i (hFm i h)
      exact ⟨fun e => hgc (e ▸ h), by omega, by omega⟩
    · exact ⟨by omega, by omega, by omega⟩
  have gg : GB w3 wf (fun i => i = gc ∨ i = w.heap.size ∨ i = w.heap.size + 1) := (gs.more (fun i _ h => by rcases h with h | h <;> simp [h])).trans gf (fun i h => .inl (.inr (.inl h)))
  have hsub : ∀ i, (i = gc ∨ i = w.heap.size ∨ i = w.heap.size + 1) → (F i ∨ i = w.heap.size ∨ i = w.heap.size + 1) ∨ F' i := fun i h => by
    rcases h with rfl | h | h
    · exact .inl (.inl hgF)
    · exact .inl (.inr (.inl h))
    · exact .inl (.inr (.inr h))
  refine ⟨fun i => (F i ∨ i = w.heap.size ∨ i = w.heap.size + 1) ∨ F' i, ⟨F', ps.set who v', m.gb gg (fun i hi e => ?_), gf.blk hb (by omega), by simpa using hps, fun e => (hF' gc e).1 rfl, fun i u hu => ?_, .inl (.inl hgF), fun i hi => .inr hi, fun i hi => ?_⟩, (g.more (fun i _ h => hFm i h)).trans gg (fun i h => ?_), fun i hi => ?_⟩
  · have := hF' i hi
    omega
  · unfold updS
    by_cases e : i = who
    · subst e
      rw [if_pos rfl]
      by_cases hl : i < ps.length
      · rw [List.getElem?_set_self hl] at hu
        injection hu with hu
        subst hu
        exact p.gb gg hsub (fun _ _ h => h)
      · rw [List.getElem?_eq_none (by simp; omega)] at hu
        cases hu
    · rw [if_neg e]
      rw [List.getElem?_set_ne (fun h => e h.symm)] at hu
      refine ((hpend i u hu).gb (F' := fun i => (F i ∨ i = w.heap.size ∨ i = w.heap.size + 1) ∨ F' i) g hFm (fun j hj h => ?_)).gb gg hsub (fun _ _ h => h)
      rcases h with (h | h | h) | h
      · exact h
      · omega
      · omega
      · rcases f j h with h | h
        · exact hFm j h
        · omega
  · have h1 := gg.size
    rcases hi with (hi | hi | hi) | hi
    · have := hF i hi; omega
    · omega
    · omega
    · have := m.lt i hi; omega
  · rcases h with rfl | h | h
    · exact .inl hgF
    · exact .inr (by omega)
    · exact .inr (by omega)
  · rcases hi with (hi | hi | hi) | hi
    · exact .inl hi
    · exact .inr (by omega)
    · exact .inr (by omega)
    · rcases f i hi with h | h
      · exact .inl (hFm i h)
      · exact .inr (by omega)
theorem pend_idle {w : World} {F : Nat → Prop} {gc who : Nat} {v : Value} {s : CallS} (h : PendAt w F gc who v s) (hs : s = .idle) : v = .nilFunc := by
  subst hs
  exact h
theorem pend_one {w : World} {F : Nat → Prop} {gc who : Nat} {v : Value} {s : CallS} (h : PendAt w F gc who v s) : v.oneCell' = true := by
  by_cases hs : s = .idle
  · subst hs
    have e : v = .nilFunc := h
    rw [e]
    rfl
  · obtain ⟨f, c, rfl⟩ := pend_func h hs
    rfl
/-- the stores behind the call, in either order -/
theorem mid_a {w u w3 : World} {F Fm F' : Nat → Prop} {gc gm lim who : Nat} {ps : List Value} {val' : Nat} {L' : List AccE} {s' : CallS} {d : Bool} {er n : Int} {v' : Value} (x : Ext w u) (hu : w.heap.size + 2 ≤ u.heap.size) (m : MachAt w3 F' gm [val'] 0 L') (g : GB u w3 Fm) (f : ∀ i, F' i → Fm i ∨ u.heap.size ≤ i)
    (p : PendAt w3 (fun i => (F i ∨ i = w.heap.size ∨ i = w.heap.size + 1) ∨ F' i) gc who v' s') (hg : gc < w.heap.size)
    (kg : w3.heap[gc]? = some (.cells (cntCells gm lim ps) 129 (0, 0))) (k1 : w3.heap[w.heap.size + 1]? = some (.cells #[.bool false, .int .i64 0, .int .i64 0] 71 (0, 0))) (k0 : w3.heap[w.heap.size]? = some (.cells #[.bool false, .int .i64 0, .int .i64 0] 71 (0, 0))) :
    StepMid w F Fm gc gm lim who ps val' L' s' d er n ((((w3.setCell ⟨gc, 2 + who, none⟩ v').setCell ⟨w.heap.size + 1, 0, none⟩ (.bool d)).setCell ⟨w.heap.size + 1, 1, none⟩ (.int .i64 er)).setCell ⟨w.heap.size + 1, 2, none⟩ (.int .i64 n)) := by
  have n1 : gc ≠ w.heap.size + 1 := by omega
  have n0 : w.heap.size ≠ w.heap.size + 1 := by omega
  have ng : w.heap.size ≠ gc := by omega
  have ng1 : w.heap.size + 1 ≠ gc := by omega
  refine ⟨v', F', w3, m, GB.back x g, fun i hi => ?_, p, Nat.le_trans hu g.size, ((((GB.refl w3 (fun i => i = gc ∨ i = w.heap.size + 1)).set gc _ _ (.inl (.inl rfl))).set _ 0 _ (.inl (.inr rfl))).set _ 1 _ (.inl (.inr rfl))).set _ 2 _ (.inl (.inr rfl)), ?_, row3 (blk_grown k1 (grown_set _ gc _ _) ng1) _ _ _, ?_⟩
  · rcases f i hi with h | h
    · exact .inl h
    · exact .inr (by omega)
  · rw [← cnt_set2]
    exact blk_grown (blk_grown (blk_grown (blk_set kg _ _) (grown_set _ _ 0 _) n1) (grown_set _ _ 1 _) n1) (grown_set _ _ 2 _) n1
  · exact blk_grown (blk_grown (blk_grown (blk_grown k0 (grown_set _ gc _ _) ng) (grown_set _ _ 0 _) n0) (grown_set _ _ 1 _) n0) (grown_set _ _ 2 _) n0
set_option maxHeartbeats 2000000 in
set_option maxRecDepth 100000 in
theorem cstep_run (w : World) (F : Nat → Prop) (gc gm lim who : Nat) (S : Nat → CallS) (Fm : Nat → Prop) (ps : List Value) (fn : FuncId) (caps : Array Value) (val' : Nat) (L' : List AccE) (s' : CallS) (d : Bool) (er n : Int)
    (hgc : ¬ Fm gc) (kg : w.heap[gc]? = some (.cells (cntCells gm lim ps) 129 (0, 0))) (hps : ps.length = 64) (hpend : ∀ i v, ps[i]? = some v → PendAt w F gc i v (S i)) (hgF : F gc) (hFm : ∀ i, Fm i → F i) (hF : ∀ i, F i → i < w.heap.size) (hw : who < 64) (hv : ps[who]? = some (.func (.func fn) #[] caps))
    (hen : ∀ u : World, (callFunc fn caps).run Try.prog u = .ok (.enter fn caps) u)
    (CL : ∀ u, Ext w u → w.heap.size + 2 ≤ u.heap.size → Calls Try.prog fn caps u (CloRet u (fun i => F i ∨ i = w.heap.size ∨ i = w.heap.size + 1) Fm gc gm who val' L' s' d er n)) :
    Calls Try.prog 29 #[.pointer (some ⟨gc, 0, none⟩), .int .i64 (who : Int)] w fun e w' => e = .returned (.tuple #[.agg #[.bool d, .int .i64 er, .int .i64 n], .int .i64 0]) ∧ CntGo w F gc gm lim val' L' (updS S who s') w' := by
  have a3 : (0 : Int) ≤ (who : Int) := by omega
  have a4 : (who : Int) < 64 := by omega
  have hq : ∀ (u : World), (binOp .eql 126 (.func (.func fn) #[] caps) .nilFunc).run Try.prog u = .ok (.bool false) u := fun _ => rfl
  have hgl : gc < w.heap.size := hF gc hgF
  have d2 : (w.alloc (.cells #[.bool false, .int .i64 0, .int .i64 0] 71)).cell? ⟨gc, 2 + who, none⟩ = some (.func (.func fn) #[] caps) := cell_past ((blk_cell kg _).trans (cnt_cell2 hv)) _
  obtain ⟨W, hW⟩ : ∃ W, (w.alloc (.cells #[.bool false, .int .i64 0, .int .i64 0] 71)).alloc (.cells #[.bool false, .int .i64 0, .int .i64 0] 71) = W := ⟨_, rfl⟩
  have xW : Ext w W := by rw [← hW]; exact ((Ext.refl w).alloc _).alloc _
  have hsW : W.heap.size = w.heap.size + 2 := by rw [← hW]; simp
  have HS2 := Lib.hid (show w.heap.size + 2 ≤ W.drew.heap.size from Nat.le_of_eq hsW.symm)
  have K0 := Lib.hid (show W.heap[w.heap.size]? = some (.cells #[.bool false, .int .i64 0, .int .i64 0] 71 (0, 0)) by rw [← hW]; exact blk_past (blk_new w _) _)
  have K1 := Lib.hid (show W.heap[w.heap.size + 1]? = some (.cells #[.bool false, .int .i64 0, .int .i64 0] 71 (0, 0)) by rw [← hW]; exact blk_newk _ _ (by simp))
  have KG := Lib.hid (blk_ext kg xW)
  have HCL := Lib.hid CL; have HP := Lib.hid hpend; have HF := Lib.hid hF; have HV := Lib.hid hv; have HPS := Lib.hid hps; have HFm := Lib.hid hFm
  have dW : W.cell? ⟨gc, 2 + who, none⟩ = some (.func (.func fn) #[] caps) := (blk_cell KG.out _).trans (cnt_cell2 hv)
  have nf0 : ¬ Fm w.heap.size := fun e => Nat.lt_irrefl _ (hF _ (hFm _ e))
  have nf1 : ¬ Fm (w.heap.size + 1) := fun e => by have := hF _ (hFm _ e); omega
  clear kg hps hpend hFm hF hv CL hsW
  by_cases hi : s' = .idle
  · have HI := Lib.hid hi
    clear hi
    go_enter Try.func29, Try.ntmps29
    go_wp2_with fail
    refine (cworker_ok _ who a3 a4).mono ?_
    rintro e w1 ⟨rfl, rfl⟩
    go_upto_region 6 with fail
    (try rw [hW])
    clear hW d2
    go_cut [] (fun wd => StepMid w F Fm gc gm lim who ps val' L' s' d er n wd)
    case first =>
      go_region_with ((with_reducible refine (HCL.out W.drew xW.drew HS2.out).mono ?_); rintro e w3 ⟨v', F', rfl, m3, g3, f3, p3⟩; obtain rfl : v' = .nilFunc := pend_idle p3 HI.out; have g3' := GB.back (Ext.refl W).drew g3; have k3 := g3'.blk KG.out hgc; have k1 := g3'.blk K1.out nf1; have k0 := g3'.blk K0.out nf0; have c0 := blk_cell k1 0; have c1 := blk_cell k1 1; have c2 := blk_cell k1 2; have z0 := blk_frozen k1 0; have z1 := blk_frozen k1 1; have z2 := blk_frozen k1 2; have cg : w3.cell? ⟨gc, 2 + who, none⟩ = some (.func (.func fn) #[] caps) := (blk_cell k3 _).trans (cnt_cell2 HV.out); have zg := blk_frozen k3 (2 + who); have M := Lib.hid (mid_a (d := d) (er := er) (n := n) xW.drew HS2.out m3 g3 f3 p3 hgl k3 k1 k0); clear m3 g3 f3 p3 g3' k3 k1 k0)
      all_goals
        go_wp2_with fail
        go_meet
        exact M.out
    case rest =>
      have HM := Lib.hid hcut
      obtain ⟨_, _, _, _, _, _, _, _, _, _, k1, k0⟩ := hcut
      have c0 := blk_cell k1 0; have c1 := blk_cell k1 1; have c2 := blk_cell k1 2
      have e0 := blk_cell k0 0; have e1 := blk_cell k0 1; have e2 := blk_cell k0 2
      have z0 := blk_frozen k0 0; have z1 := blk_frozen k0 1; have z2 := blk_frozen k0 2
      have K0' := Lib.hid k0
      clear k1 k0 dW
      go_wp2_with fail
      refine bodyPost_ret (results_row_tmp (p := 4) (u := 5) rfl _ _ w.heap.size _ #[.bool d, .int .i64 er, .int .i64 n] (0, 0) _ rfl (row3 K0'.out _ _ _) Try.underlying71 (by rfl) (by kernel_rfl)) rfl ?_
      exact ⟨rfl, step_fin HM.out HPS.out hgc HP.out hgF HFm.out HF.out ((((GB.refl wc (· = w.heap.size)).set w.heap.size 0 _ (.inl rfl)).set w.heap.size 1 _ (.inl rfl)).set w.heap.size 2 _ (.inl rfl))⟩
  · have HI := Lib.hid hi
    clear hi
    go_enter Try.func29, Try.ntmps29
    go_wp2_with fail
    refine (cworker_ok _ who a3 a4).mono ?_
    rintro e w1 ⟨rfl, rfl⟩
    go_upto_region 6 with fail
    (try rw [hW])
    clear hW d2
    go_cut [] (fun wd => StepMid w F Fm gc gm lim who ps val' L' s' d er n wd)
    case first =>
      go_region_with ((with_reducible refine (HCL.out W.drew xW.drew HS2.out).mono ?_); rintro e w3 ⟨v', F', rfl, m3, g3, f3, p3⟩; obtain ⟨f9, c9, rfl⟩ := pend_func p3 HI.out; have g3' := GB.back (Ext.refl W).drew g3; have k3 := g3'.blk KG.out hgc; have k1 := g3'.blk K1.out nf1; have k0 := g3'.blk K0.out nf0; have c0 := blk_cell k1 0; have c1 := blk_cell k1 1; have c2 := blk_cell k1 2; have z0 := blk_frozen k1 0; have z1 := blk_frozen k1 1; have z2 := blk_frozen k1 2; have cg : w3.cell? ⟨gc, 2 + who, none⟩ = some (.func (.func fn) #[] caps) := (blk_cell k3 _).trans (cnt_cell2 HV.out); have zg := blk_frozen k3 (2 + who); have M := Lib.hid (mid_a (d := d) (er := er) (n := n) xW.drew HS2.out m3 g3 f3 p3 hgl k3 k1 k0); clear m3 g3 f3 p3 g3' k3 k1 k0)
      all_goals
        go_wp2_with fail
        go_meet
        exact M.out
    case rest =>
      have HM := Lib.hid hcut
      obtain ⟨_, _, _, _, _, _, _, _, _, _, k1, k0⟩ := hcut
      have c0 := blk_cell k1 0; have c1 := blk_cell k1 1; have c2 := blk_cell k1 2
      have e0 := blk_cell k0 0; have e1 := blk_cell k0 1; have e2 := blk_cell k0 2
      have z0 := blk_frozen k0 0; have z1 := blk_frozen k0 1; have z2 := blk_frozen k0 2
      have K0' := Lib.hid k0
      clear k1 k0 dW
      go_wp2_with fail
      refine bodyPost_ret (results_row_tmp (p := 4) (u := 5) rfl _ _ w.heap.size _ #[.bool d, .int .i64 er, .int .i64 n] (0, 0) _ rfl (row3 K0'.out _ _ _) Try.underlying71 (by rfl) (by kernel_rfl)) rfl ?_
      exact ⟨rfl, step_fin HM.out HPS.out hgc HP.out hgF HFm.out HF.out ((((GB.refl wc (· = w.heap.size)).set w.heap.size 0 _ (.inl rfl)).set w.heap.size 1 _ (.inl rfl)).set w.heap.size 2 _ (.inl rfl))⟩
end Go.Proofs.Ytfjgpeffhbfihaa
