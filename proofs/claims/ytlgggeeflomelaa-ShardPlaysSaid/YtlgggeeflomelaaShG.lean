/- shard: Pending, Step, Version. -/
import Derived.Test.YtlgggeeflomelaaShF
namespace Go.Proofs.Ytlgggeeflomelaa
open Go.RowKit

def idleS : SCall → Bool
  | .idle => true
  | _ => false
theorem idleS_iff (c : SCall) : idleS c = true ↔ c = .idle := by
  cases c with
  | idle => exact ⟨fun _ => rfl, fun _ => rfl⟩
  | _ => exact ⟨(fun h => by cases h), (fun h => by cases h)⟩
theorem spend_bad (w : World) (A : Option Addr) (who : Int) (hb : ¬ (0 ≤ who ∧ who < 64)) :
    Calls Try.prog 35 #[.pointer A, .int .i64 who] w fun e w' => e = .returned (.bool false) ∧ w = w' := by
  have IS := Lib.hid (sis_bad who w hb)
  clear hb
  cases A with
  | none =>
    go_enter Try.func35, Try.ntmps35
    go_wp2_with fail
    go_ret
    exact ⟨rfl, rfl⟩
  | some a =>
    go_enter Try.func35, Try.ntmps35
    go_wp2_with fail
    refine IS.out.mono ?_
    rintro e w1 ⟨rfl, rfl⟩
    go_wp2_with fail
    go_ret
    exact ⟨rfl, rfl⟩
theorem spend_nil (w : World) (who : Int) :
    Calls Try.prog 35 #[.pointer none, .int .i64 who] w fun e w' => e = .returned (.bool false) ∧ w = w' := by
  go_enter Try.func35, Try.ntmps35
  go_wp2_with fail
  go_ret
  exact ⟨rfl, rfl⟩
set_option maxRecDepth 100000 in
theorem spend_any (w : World) (C F : Nat → Prop) (gx gb who : Nat) (L : List AccE) (s : SSt) (h : ShAt w C F gx gb L s) (hw : who < 64) :
    Calls Try.prog 35 #[.pointer (some ⟨gx, 0, none⟩), .int .i64 (who : Int)] w fun e w' => e = .returned (.bool (!idleS (s.call who))) ∧ w = w' := by
  obtain ⟨f, xf, -, -, pv, -⟩ := h.pend hw
  have IS := Lib.hid (sis_ok who w hw)
  have hq0 : ∀ (u : World), (binOp .neq 143 .nilFunc .nilFunc).run Try.prog u = .ok (.bool false) u := fun _ => rfl
  have hq1 : ∀ (f : FuncId) (c : Array Value) (u : World), (binOp .neq 143 (.func (.func f) #[] c) .nilFunc).run Try.prog u = .ok (.bool true) u := fun _ _ _ => rfl
  by_cases hb : s.call who = .idle
  · obtain rfl : f = .nilFunc := pendS_idle pv hb
    rw [hb]
    clear pv h hb
    go_enter Try.func35, Try.ntmps35
    go_wp2_with fail
    refine IS.out.mono ?_
    rintro e w1 ⟨rfl, rfl⟩
    go_wp2_with fail
    go_ret
    exact ⟨rfl, rfl⟩
  · obtain ⟨f1, c1, rfl⟩ := pendS_func2 pv hb
    have e9 : idleS (s.call who) = false := by
      cases hq : idleS (s.call who) with
      | false => rfl
      | true => exact absurd ((idleS_iff _).1 hq) hb
    rw [e9]
    clear pv h hb e9
    go_enter Try.func35, Try.ntmps35
    go_wp2_with fail
    refine IS.out.mono ?_
    rintro e w1 ⟨rfl, rfl⟩
    go_wp2_with fail
    go_ret
    exact ⟨rfl, rfl⟩
theorem sversion_any (w : World) (C F : Nat → Prop) (gx gb : Nat) (L : List AccE) (s : SSt) (h : ShAt w C F gx gb L s) (hv : s.ver ≤ 1000000) :
    Calls Try.prog 38 #[.pointer (some ⟨gx, 0, none⟩)] w (RetE (.int .i64 (s.ver : Int)) w) := by
  have dc := h.gx0
  have LK := Lib.hid (blook_any w C F gx gb L s h)
  obtain ⟨ver, hver⟩ : ∃ v, s.ver = v := ⟨_, rfl⟩
  rw [hver] at LK hv ⊢
  clear h hver
  go_enter Try.func38, Try.ntmps38
  go_wp2_with fail
  refine LK.out.mono ?_
  rintro e w1 ⟨A, c, ks, rfl, hE, x⟩
  have X := Lib.hid x
  have hcw : IntKind.i64.wrap (ver : Int) = (ver : Int) := by rw [IntKind.wrap_i64]; omega
  clear hE x
  go_wp2_with fail
  go_ret
  exact ⟨rfl, X.out⟩
theorem sversion_nil (w : World) : Calls Try.prog 38 #[.pointer none] w (RetE (.int .i64 0) w) := by
  go_enter Try.func38, Try.ntmps38
  go_wp2_with fail
  go_ret
  exact ⟨rfl, Ext.refl w⟩
theorem sstep_bad (w : World) (A : Option Addr) (who : Int) (hb : ¬ (0 ≤ who ∧ who < 64)) :
    Calls Try.prog 37 #[.pointer A, .int .i64 who] w (RetE (.tuple #[.agg #[.bool false, .int .i64 0, .int .i64 0], .int .i64 1]) w) := by
  have IS := Lib.hid (sis_bad who (w.alloc (.cells #[.bool false, .int .i64 0, .int .i64 0] 74)) hb)
  clear hb
  go_enter Try.func37, Try.ntmps37
  go_wp2_with fail
  refine IS.out.mono ?_
  rintro e w1 ⟨rfl, rfl⟩
  go_wp2_with fail
  refine bodyPost_ret (results_row_tmp (p := 4) (u := 5) rfl _ _ w.heap.size _ #[.bool false, .int .i64 0, .int .i64 0] (0, 0) _ rfl (blk_new w _) Try.underlying74 (by rfl) (by kernel_rfl)) rfl ?_
  exact ⟨rfl, (Ext.refl w).alloc _⟩
theorem sstep_idle (w : World) (who : Nat) (A : Option Addr) (hw : who < 64) (PD : ∀ u, Ext w u → Calls Try.prog 35 #[.pointer A, .int .i64 (who : Int)] u fun e w' => e = .returned (.bool false) ∧ u = w') :
    Calls Try.prog 37 #[.pointer A, .int .i64 (who : Int)] w (RetE (.tuple #[.agg #[.bool false, .int .i64 0, .int .i64 0], .int .i64 7]) w) := by
  have IS := Lib.hid (sis_ok who (w.alloc (.cells #[.bool false, .int .i64 0, .int .i64 0] 74)) hw)
  have PN := Lib.hid (PD (w.alloc (.cells #[.bool false, .int .i64 0, .int .i64 0] 74)) ((Ext.refl w).alloc _))
  clear PD
  go_enter Try.func37, Try.ntmps37
  go_wp2_with fail
  refine IS.out.mono ?_
  rintro e w1 ⟨rfl, rfl⟩
  go_wp2_with fail
  refine PN.out.mono ?_
  rintro e w1 ⟨rfl, rfl⟩
  go_wp2_with fail
  refine bodyPost_ret (results_row_tmp (p := 4) (u := 5) rfl _ _ w.heap.size _ #[.bool false, .int .i64 0, .int .i64 0] (0, 0) _ rfl (blk_new w _) Try.underlying74 (by rfl) (by kernel_rfl)) rfl ?_
  exact ⟨rfl, (Ext.refl w).alloc _⟩
theorem stepS_put {w W w3 : World} {C F : Nat → Prop} {gx gb N : Nat} {s : SSt} {v r : Value} {e : Ending} (xW : Ext w W) (hr : w.heap.size < W.heap.size) (hlt : ∀ i, F i → i < w.heap.size) (h : StepS W C F gx gb N s v e w3) (a b c : Value) :
    StepS w C F gx gb N s r (.returned r) (((w3.setCell ⟨w.heap.size, 0, none⟩ a).setCell ⟨w.heap.size, 1, none⟩ b).setCell ⟨w.heap.size, 2, none⟩ c) := by
  obtain ⟨L', C', F', h1, h2, h3, h4, h5, h6, h7⟩ := h
  have gs := set3_gb w3 w.heap.size a b c (S := fun i => i = w.heap.size) rfl
  have hn : ¬ F' w.heap.size := fun e => (h7 _ e).elim (fun h => Nat.lt_irrefl _ (hlt _ h)) (fun h => by omega)
  exact ⟨L', C', F', h1, rfl, h3.gb gs (fun i hi e => hn (e ▸ hi)), (GB.back xW h4).trans gs (fun i e => .inr (by omega)), fun i hi => (h5 i hi).imp id (fun h => by omega), h6, fun i hi => (h7 i hi).imp id (fun h => by omega)⟩
set_option maxHeartbeats 1000000 in
set_option maxRecDepth 100000 in
theorem sstep_run (w : World) (C F : Nat → Prop) (gx gb who N : Nat) (L : List AccE) (s s1 : SSt) (cl : SCall) (fn : FuncId) (caps : Array Value) (done : Bool) (er nu : Int) (h : ShAt w C F gx gb L s) (hw : who < 64) (hb : s.call who ≠ .idle)
    (hv : w.cell? ⟨gx, 1 + who, none⟩ = some (.func (.func fn) #[] caps))
    (hen : ∀ u : World, (callFunc fn caps).run Try.prog u = .ok (.enter fn caps) u)
    (CL : ∀ u, Ext w u → Calls Try.prog fn caps u (SClo u C F gx gb who N s1 cl done er nu)) :
    Calls Try.prog 37 #[.pointer (some ⟨gx, 0, none⟩), .int .i64 (who : Int)] w (StepS w C F gx gb N (s1.put who cl) (.tuple #[.agg #[.bool done, .int .i64 er, .int .i64 nu], .int .i64 0])) := by
  obtain ⟨W, hW⟩ : ∃ W, w.alloc (.cells #[.bool false, .int .i64 0, .int .i64 0] 74) = W := ⟨_, rfl⟩
  have xW : Ext w W := by rw [← hW]; exact (Ext.refl w).alloc _
  have KR := Lib.hid (show W.heap[w.heap.size]? = some (.cells #[.bool false, .int .i64 0, .int .i64 0] 74 (0, 0)) by rw [← hW]; exact blk_new w _)
  have hW' := h.ext xW
  have IS := Lib.hid (sis_ok who W hw)
  have hpd := spend_any W C F gx gb who L s hW' hw
  have e9 : idleS (s.call who) = false := by
    cases hq : idleS (s.call who) with
    | false => rfl
    | true => exact absurd ((idleS_iff _).1 hq) hb
  rw [e9] at hpd
  have PN := Lib.hid hpd
  have ST := Lib.hid (scalls_run W C F gx gb who N L s s1 cl fn caps done er nu hW' hw (ext_cell xW hv) hen (fun u hu => CL u (xW.trans hu)))
  have HLT := Lib.hid h.lt; have hsub := Lib.hid h.sub
  have XW := Lib.hid xW
  clear h hW' hpd e9 CL hv hb
  go_enter Try.func37, Try.ntmps37
  go_wp2_with fail
  (try rw [hW])
  refine IS.out.mono ?_
  rintro e w1 ⟨rfl, rfl⟩
  go_wp2_with fail
  refine PN.out.mono ?_
  rintro e w1 ⟨rfl, rfl⟩
  clear hW
  go_wp2_with fail
  refine ST.out.mono ?_
  rintro e w3 hst
  have HST := Lib.hid hst
  obtain ⟨L', C', F', -, rfl, -, g4, -⟩ := hst
  have k3 := g4.blk KR.out (fun e => Nat.lt_irrefl _ (HLT.out _ (hsub.out _ e)))
  have K3 := Lib.hid k3
  have r0 := blk_cell k3 0; have r1 := blk_cell k3 1; have r2 := blk_cell k3 2
  have z0 := blk_frozen k3 0; have z1 := blk_frozen k3 1; have z2 := blk_frozen k3 2
  clear k3 g4
  go_wp2_with fail
  refine bodyPost_ret (results_row_tmp (p := 4) (u := 5) rfl _ _ w.heap.size _ #[.bool done, .int .i64 er, .int .i64 nu] (0, 0) _ rfl (row3 K3.out _ _ _) Try.underlying74 (by rfl) (by kernel_rfl)) rfl ?_
  exact stepS_put XW.out (blk_lt KR.out) HLT.out HST.out _ _ _
end Go.Proofs.Ytlgggeeflomelaa
