/- epoch: Step. -/
import Derived.Test.YtlgggeeflomelaaEpJ
namespace Go.Proofs.Ytlgggeeflomelaa
open Go.RowKit

theorem estep_bad (w : World) (gx n gw : Nat) (who : Int) (h : w.cell? ⟨gx, 1, none⟩ = some (.slice (some ⟨gw, 0, none⟩) n n)) (hb : ¬ (0 ≤ who ∧ who < (n : Int))) :
    Calls Try.prog 18 #[.pointer (some ⟨gx, 0, none⟩), .int .i64 who] w (RetE (.tuple #[.agg #[.bool false, .int .i64 0, .int .i64 0, .slice none 0 0], .int .i64 1]) w) := by
  have WK := Lib.hid (eworker_bad (w.alloc (.cells #[.bool false, .int .i64 0, .int .i64 0, .slice none 0 0] 36)) gx n gw who (cell_past h _) hb)
  clear hb h
  go_enter Try.func18, Try.ntmps18
  go_wp2_with fail
  refine WK.out.mono ?_
  rintro e w1 ⟨rfl, rfl⟩
  go_wp2_with fail
  refine bodyPost_ret (results_row_tmp (p := 4) (u := 5) rfl _ _ w.heap.size _ #[.bool false, .int .i64 0, .int .i64 0, .slice none 0 0] (0, 0) _ rfl (blk_new w _) Try.underlying36 (by rfl) (by kernel_rfl)) rfl ?_
  exact ⟨rfl, (Ext.refl w).alloc _⟩
set_option maxRecDepth 100000 in
theorem estep_idle (w : World) (C F : Nat → Prop) (gx gm n who : Nat) (L : List AccE) (s : ESt) (h : EpAt w C F gx gm n L s) (hw : who < n) (hs : (s.wk who).call = .idle) :
    Calls Try.prog 18 #[.pointer (some ⟨gx, 0, none⟩), .int .i64 (who : Int)] w (RetE (.tuple #[.agg #[.bool false, .int .i64 0, .int .i64 0, .slice none 0 0], .int .i64 7]) w) := by
  have h' := h.ext ((Ext.refl w).alloc (.cells #[.bool false, .int .i64 0, .int .i64 0, .slice none 0 0] 36))
  obtain ⟨gw, f, B, c, x1, _, _, hgx, xf, _, _, _, pv, _⟩ := h'.wk hw
  have WK := Lib.hid (eworker_ok (w.alloc (.cells #[.bool false, .int .i64 0, .int .i64 0, .slice none 0 0] 36)) gx n who gw x1 hw)
  have hq : ∀ (u : World), (binOp .eql 117 .nilFunc .nilFunc).run Try.prog u = .ok (.bool true) u := fun _ => rfl
  rw [hs] at pv
  obtain rfl : f = .nilFunc := pv
  clear h h' hs hgx
  go_enter Try.func18, Try.ntmps18
  go_wp2_with fail
  refine WK.out.mono ?_
  rintro e w1 ⟨rfl, rfl⟩
  go_wp2_with fail
  refine bodyPost_ret (results_row_tmp (p := 4) (u := 5) rfl _ _ w.heap.size _ #[.bool false, .int .i64 0, .int .i64 0, .slice none 0 0] (0, 0) _ rfl (blk_new w _) Try.underlying36 (by rfl) (by kernel_rfl)) rfl ?_
  exact ⟨rfl, (Ext.refl w).alloc _⟩
/-- what a step leaves -/
def StepSt (w : World) (C F : Nat → Prop) (gx gm n k : Nat) (s : ESt) (done : Bool) (er nu : Int) (xs : List Int) (e : Ending) (w' : World) : Prop :=
  ∃ L' A m q C' F', L'.length = k ∧ e = .returned (.tuple #[.agg #[.bool done, .int .i64 er, .int .i64 nu, .slice A m q], .int .i64 0]) ∧ EpAt w' C' F' gx gm n L' s ∧ GB w w' C ∧ (∀ i, C' i → C i ∨ w.heap.size ≤ i) ∧ (∀ i, F i → F' i) ∧ (∀ i, F' i → F i ∨ w.heap.size ≤ i) ∧ ThOk w w' F' A m q xs
/-- the next function is stored, and the result twice -/
theorem step_fin {w W w3 : World} {C F : Nat → Prop} {gx gm n who gw k : Nat} {L' : List AccE} {s1 : ESt} {cl : ECall} {done : Bool} {er nu : Int} {xs : List Int} {v : Value} {A : Option Addr} {m q : Nat} {C' F' : Nat → Prop} (xW : Ext w W) (hW : W.heap.size = w.heap.size + 2) (hw : who < n) (hlt : ∀ i, F i → i < w.heap.size)
    (hl : L'.length = k) (h1 : EpAt w3 C' F' gx gm n L' s1) (h2 : PendE w3 C' F' gx who v cl) (h3 : GB W w3 C) (h4 : ∀ i, C' i → C i ∨ W.heap.size ≤ i) (h5 : ∀ i, F i → F' i) (h6 : ∀ i, F' i → F i ∨ W.heap.size ≤ i) (h7 : ThOk W w3 F' A m q xs) (hgw : w3.cell? ⟨gx, 1, none⟩ = some (.slice (some ⟨gw, 0, none⟩) n n)) (a b c d a' b' c' d' : Value) :
    StepSt w C F gx gm n k (s1.put who { s1.wk who with call := cl }) done er nu xs (.returned (.tuple #[.agg #[.bool done, .int .i64 er, .int .i64 nu, .slice A m q], .int .i64 0])) (put4 (put4 (w3.setCell ⟨gw, who * 3, none⟩ v) (w.heap.size + 1) a b c d) w.heap.size a' b' c' d') := by
  obtain ⟨gw', f', B', k', y1, _, hCgw, _, _, _, _, _, _, _, _, hput, _⟩ := h1.wk hw
  obtain rfl : gw' = gw := by
    have e := y1.symm.trans hgw
    simp at e
    exact e
  obtain ⟨C9, F9, g1, g2, g3, g4, g5⟩ := hput v cl h2
  have hs3 := h3.size
  have hFn : ∀ i, F9 i → F i ∨ W.heap.size ≤ i := fun i hi => (g5 i hi).elim (h6 i) (fun h => .inr (by omega))
  have n0 : ¬ F9 w.heap.size := fun e => (hFn _ e).elim (fun h => Nat.lt_irrefl _ (hlt _ h)) (fun h => by omega)
  have n1 : ¬ F9 (w.heap.size + 1) := fun e => (hFn _ e).elim (fun h => by have := hlt _ h; omega) (fun h => by omega)
  have p1 := put4_gb (w3.setCell ⟨gw', who * 3, none⟩ v) (w.heap.size + 1) a b c d
  have p2 := put4_gb (put4 (w3.setCell ⟨gw', who * 3, none⟩ v) (w.heap.size + 1) a b c d) w.heap.size a' b' c' d'
  have go := own_ge h7.1
  refine ⟨L', A, m, q, C9, F9, hl, rfl, (g1.gb p1 (fun i hi e => n1 (e ▸ hi))).gb p2 (fun i hi e => n0 (e ▸ hi)), ?_, fun i hi => ?_, fun i hi => g4 i (h5 i hi), fun i hi => (hFn i hi).imp id (fun h => by omega), ?_, fun i hi hF => ?_⟩
  · have e1 : GB w (w3.setCell ⟨gw', who * 3, none⟩ v) C := (GB.back xW h3).trans g2 (fun i hi => (h4 i hi).imp id (fun h => by omega))
    exact (e1.trans p1 (fun i e => .inr (by omega))).trans p2 (fun i e => .inr (by omega))
  · rcases g3 i hi with h | h
    · exact (h4 i h).imp id (fun h => by omega)
    · exact .inr (by omega)
  · refine own_base (p2.own (p1.own ((GB.own ((GB.refl w3 (· = gw')).set gw' _ _ (.inl rfl)) h7.1 (fun i hi e => ?_))) (fun i hi e => ?_)) (fun i hi e => ?_)) (by omega)
    · exact h7.2 i hi (h1.sub i (e ▸ hCgw))
    · have := go i hi; omega
    · have := go i hi; omega
  · rcases g5 i hF with h | h
    · exact h7.2 i hi h
    · have := (h7.1.lt i hi).2; omega
set_option maxHeartbeats 2000000 in
set_option maxRecDepth 100000 in
theorem estep_run (w : World) (C F : Nat → Prop) (gx gm n who k : Nat) (L : List AccE) (s s1 : ESt) (cl : ECall) (fn : FuncId) (caps : Array Value) (done : Bool) (er nu : Int) (xs : List Int) (h : EpAt w C F gx gm n L s) (hw : who < n)
    (hv : ∀ gw f, w.cell? ⟨gx, 1, none⟩ = some (.slice (some ⟨gw, 0, none⟩) n n) → w.cell? ⟨gw, who * 3, none⟩ = some f → f = .func (.func fn) #[] caps)
    (hen : ∀ u : World, (callFunc fn caps).run Try.prog u = .ok (.enter fn caps) u)
    (CL : ∀ u, Ext w u → Calls Try.prog fn caps u (CloSt u C F gx gm n who k s1 cl done er nu xs)) :
    Calls Try.prog 18 #[.pointer (some ⟨gx, 0, none⟩), .int .i64 (who : Int)] w (StepSt w C F gx gm n k (s1.put who { s1.wk who with call := cl }) done er nu xs) := by
  obtain ⟨gw, f, B, c, x1, _, hCw, hgx, xf, _, _, _, pv, _⟩ := h.wk hw
  obtain rfl := hv gw f x1 xf
  have hq : ∀ (u : World), (binOp .eql 117 (.func (.func fn) #[] caps) .nilFunc).run Try.prog u = .ok (.bool false) u := fun _ => rfl
  have WK := Lib.hid (eworker_ok (w.alloc (.cells #[.bool false, .int .i64 0, .int .i64 0, .slice none 0 0] 36)) gx n who gw (cell_past x1 _) hw)
  have hgl : gw < w.heap.size := World.block_lt_of_cell? w _ xf
  have d2 : (w.alloc (.cells #[.bool false, .int .i64 0, .int .i64 0, .slice none 0 0] 36)).cell? ⟨gw, who * 3, none⟩ = some (.func (.func fn) #[] caps) := cell_past xf _
  obtain ⟨W, hW⟩ : ∃ W, (w.alloc (.cells #[.bool false, .int .i64 0, .int .i64 0, .slice none 0 0] 36)).alloc (.cells #[.bool false, .int .i64 0, .int .i64 0, .slice none 0 0] 36) = W := ⟨_, rfl⟩
  have xW : Ext w W := by rw [← hW]; exact ((Ext.refl w).alloc _).alloc _
  have HSW := Lib.hid (show W.heap.size = w.heap.size + 2 by rw [← hW]; simp)
  have K0 := Lib.hid (show W.heap[w.heap.size]? = some (.cells #[.bool false, .int .i64 0, .int .i64 0, .slice none 0 0] 36 (0, 0)) by rw [← hW]; exact blk_past (blk_new w _) _)
  have K1 := Lib.hid (show W.heap[w.heap.size + 1]? = some (.cells #[.bool false, .int .i64 0, .int .i64 0, .slice none 0 0] 36 (0, 0)) by rw [← hW]; exact blk_newk _ _ (by simp))
  have dW : W.cell? ⟨gw, who * 3, none⟩ = some (.func (.func fn) #[] caps) := ext_cell xW xf
  have x1W := Lib.hid (ext_cell xW x1)
  have HLT := Lib.hid h.lt; have hsub := Lib.hid h.sub
  have HCL := Lib.hid (CL W xW)
  have HGX := Lib.hid hgx
  clear h CL hv xf x1 hgx pv
  go_enter Try.func18, Try.ntmps18
  go_wp2_with fail
  refine WK.out.mono ?_
  rintro e w1 ⟨rfl, rfl⟩
  go_wp2_with fail
  (try rw [hW])
  clear hW d2
  refine HCL.out.mono ?_
  rintro e w3 ⟨L', hl, v, A, m, q, C', F', rfl, h1, h2, h3, h4, h5, h6, h7⟩
  have n0 : ¬ C w.heap.size := fun e => Nat.lt_irrefl _ (HLT.out _ (hsub.out _ e))
  have n1 : ¬ C (w.heap.size + 1) := fun e => by have := HLT.out _ (hsub.out _ e); omega
  have k0 := h3.blk K0.out n0; have k1 := h3.blk K1.out n1
  obtain ⟨gw', f', _, _, y1, _, _, hg', yf, _, _, yz, _⟩ := h1.wk hw
  obtain rfl : gw' = gw := by have := HGX.out; omega
  have yz0 := yz (who * 3)
  have c0 := blk_cell k1 0; have c1 := blk_cell k1 1; have c2 := blk_cell k1 2; have c3 := blk_cell k1 3
  have z0 := blk_frozen k1 0; have z1 := blk_frozen k1 1; have z2 := blk_frozen k1 2; have z3 := blk_frozen k1 3
  have ne1 : w.heap.size + 1 ≠ gw' := by omega
  have ne0 : w.heap.size ≠ gw' := by omega
  have ne01 : w.heap.size ≠ w.heap.size + 1 := by omega
  have K1' := Lib.hid (row4 (blk_grown k1 (grown_set w3 gw' (who * 3) v) ne1) (.bool done) (.int .i64 er) (.int .i64 nu) (.slice A m q))
  have K0' := Lib.hid (blk_grown (blk_grown (blk_grown (blk_grown (blk_grown k0 (grown_set w3 gw' (who * 3) v) ne0) (grown_set _ (w.heap.size + 1) 0 (.bool done)) ne01) (grown_set _ (w.heap.size + 1) 1 (.int .i64 er)) ne01) (grown_set _ (w.heap.size + 1) 2 (.int .i64 nu)) ne01) (grown_set _ (w.heap.size + 1) 3 (.slice A m q)) ne01)
  have FIN := Lib.hid (fun a' b' c' d' => step_fin (v := v) (done := done) (er := er) (nu := nu) xW HSW.out hw HLT.out hl h1 h2 h3 h4 h5 h6 h7 y1 (.bool done) (.int .i64 er) (.int .i64 nu) (.slice A m q) a' b' c' d')
  have hv : v = .nilFunc ∨ ∃ f c, v = .func (.func f) #[] c := by
    by_cases hi : cl = .idle
    · subst hi; exact .inl h2
    · exact .inr (pendE_func h2 hi)
  clear h1 h2 h3 h4 h5 h6 h7 y1 yz hg' k0 k1 hl dW
  rcases hv with rfl | ⟨f9, c9, rfl⟩
  · go_upto_region 8 with fail
    obtain ⟨V, hV⟩ : ∃ V, (((((w3.setCell ⟨gw', who * 3, none⟩ .nilFunc).setCell ⟨w.heap.size + 1, 0, none⟩ (.bool done)).setCell ⟨w.heap.size + 1, 1, none⟩ (.int .i64 er)).setCell ⟨w.heap.size + 1, 2, none⟩ (.int .i64 nu)).setCell ⟨w.heap.size + 1, 3, none⟩ (.slice A m q)) = V := ⟨_, rfl⟩
    have hV' : put4 (w3.setCell ⟨gw', who * 3, none⟩ .nilFunc) (w.heap.size + 1) (.bool done) (.int .i64 er) (.int .i64 nu) (.slice A m q) = V := hV
    rw [hV'] at FIN
    clear hV'
    rw [hV] at K1' K0'
    (try rw [hV])
    clear hV c0 c1 c2 c3 z0 z1 z2 z3
    have e0 := blk_cell K1'.out 0; have e1 := blk_cell K1'.out 1; have e2 := blk_cell K1'.out 2; have e3 := blk_cell K1'.out 3
    have g0 := blk_cell K0'.out 0; have g1 := blk_cell K0'.out 1; have g2 := blk_cell K0'.out 2; have g3 := blk_cell K0'.out 3
    have z0 := blk_frozen K0'.out 0; have z1 := blk_frozen K0'.out 1; have z2 := blk_frozen K0'.out 2; have z3 := blk_frozen K0'.out 3
    go_wp2_with fail
    refine bodyPost_ret (results_row_tmp (p := 4) (u := 5) rfl _ _ w.heap.size _ #[.bool done, .int .i64 er, .int .i64 nu, .slice A m q] (0, 0) _ rfl (row4 K0'.out _ _ _ _) Try.underlying36 (by rfl) (by kernel_rfl)) rfl ?_
    exact FIN.out _ _ _ _
  · go_upto_region 8 with fail
    obtain ⟨V, hV⟩ : ∃ V, (((((w3.setCell ⟨gw', who * 3, none⟩ (.func (.func f9) #[] c9)).setCell ⟨w.heap.size + 1, 0, none⟩ (.bool done)).setCell ⟨w.heap.size + 1, 1, none⟩ (.int .i64 er)).setCell ⟨w.heap.size + 1, 2, none⟩ (.int .i64 nu)).setCell ⟨w.heap.size + 1, 3, none⟩ (.slice A m q)) = V := ⟨_, rfl⟩
    have hV' : put4 (w3.setCell ⟨gw', who * 3, none⟩ (.func (.func f9) #[] c9)) (w.heap.size + 1) (.bool done) (.int .i64 er) (.int .i64 nu) (.slice A m q) = V := hV
    rw [hV'] at FIN
    clear hV'
    rw [hV] at K1' K0'
    (try rw [hV])
    clear hV c0 c1 c2 c3 z0 z1 z2 z3
    have e0 := blk_cell K1'.out 0; have e1 := blk_cell K1'.out 1; have e2 := blk_cell K1'.out 2; have e3 := blk_cell K1'.out 3
    have g0 := blk_cell K0'.out 0; have g1 := blk_cell K0'.out 1; have g2 := blk_cell K0'.out 2; have g3 := blk_cell K0'.out 3
    have z0 := blk_frozen K0'.out 0; have z1 := blk_frozen K0'.out 1; have z2 := blk_frozen K0'.out 2; have z3 := blk_frozen K0'.out 3
    go_wp2_with fail
    refine bodyPost_ret (results_row_tmp (p := 4) (u := 5) rfl _ _ w.heap.size _ #[.bool done, .int .i64 er, .int .i64 nu, .slice A m q] (0, 0) _ rfl (row4 K0'.out _ _ _ _) Try.underlying36 (by rfl) (by kernel_rfl)) rfl ?_
    exact FIN.out _ _ _ _
end Go.Proofs.Ytlgggeeflomelaa
