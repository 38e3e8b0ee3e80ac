/- Laid together: what 'TopGivenBack' needs, part 6 of 12. -/
import Derived.Deep.OwnRows
import Derived.Deep.LoopGhost
import Derived.Deep.RegionWith
import Derived.Deep.RegionLaw
import Derived.Deep.DeepCutAuto
import Derived.Recover
import Derived.Deep.AppendLies
import Derived.Test.YtloidkmphigbdaaGreatBTopGivenBack1
import Derived.Test.YtloidkmphigbdaaGreatBTopGivenBack2
import Derived.Test.YtloidkmphigbdaaGreatBTopGivenBack4
import Derived.Test.YtloidkmphigbdaaGreatBTopGivenBack5
namespace Go.Proofs.YtloidkmphigbdaaGreat
set_option linter.all false

section
open Go.RowKit

set_option maxHeartbeats 2000000 in
theorem k_put3 (w : World) (g : CoK) (O C : Nat → Prop) (xb : Nat → Nat) (L : List AccE) (s : KSt) (who now q0 q1 N : Nat) (x : PCall) (res : Bool) (ser : Int) (k : Kont) (f : Found) (c : PCell) (rp : KRep) (av : Value) (h : CoAt w g O C xb L s) (hc : s.call who = .run x res ser k) (hN : L.length ≤ N) (hw : who < 64)
    (k0 : BoxX w (XO C O) (ptrV q0) (ptrV (xb who))) (k1 : BoxX w (XO C O) (ptrV q1) av) (ka : PutAt w (XO C O) (cidOf g who (xb who) x) av f c rp) :
    Calls Tryz.prog 258 #[.int .u64 (now : Int), ptrV q0, ptrV q1] w (SK w g O C xb who N x (s.put who (.run x true ser k)) (.on (.put f c rp))) := by
  obtain ⟨fa, ca, rfl⟩ : ∃ fa ca, av = fnV fa ca := by obtain ⟨_, _, _, _, _, _, e, _⟩ := ka; exact ⟨_, _, e⟩
  obtain ⟨W, hW⟩ : ∃ W, (w.alloc (.cells #[.bool false, .int .i64 0, .bool false, .int .i64 0, .int .i64 0, .int .i64 0, .int .i64 0] 41)) = W := ⟨_, rfl⟩
  have xW : Ext w W := by rw [← hW]; exact ((Ext.refl w).alloc _)
  have K0 := Lib.hid (show W.heap[w.heap.size]? = some (.cells #[.bool false, .int .i64 0, .bool false, .int .i64 0, .int .i64 0, .int .i64 0, .int .i64 0] 41 (0, 0)) by rw [← hW]; exact blk_new w _)
  have hA := h.xg xW (Nat.le_refl _) (blk_lt K0.out)
  obtain ⟨V, hV⟩ : ∃ V, W.setCell ⟨xb who, 7, none⟩ (.bool true) = V := ⟨_, rfl⟩
  obtain ⟨⟨tx, Kx, kcx, hxb, -, -, -⟩, hCx⟩ := hA.xat hw hc
  have gV : GB W V (· = xb who) := by rw [← hV]; exact (GB.refl W (· = xb who)).set (xb who) 7 _ (.inl rfl)
  have hgo := hA.setx (res' := true) (ser' := ser) hw hc gV (fun t K kc e => by rw [← hV]; exact blk_set e 7 _)
  obtain ⟨C', hmv⟩ := hgo.mov
  have hkp := hmv.kpg xW (Nat.le_refl w.heap.size)
  have ON := Lib.hid (on_out (show KontAt V (XO C' (XG O w.heap.size)) (cidOf g who (xb who) x) (fnV fa ca) (.put f c rp) from ka.kp hkp))
  have y7 : W.cell? ⟨xb who, 7, none⟩ = some (.bool res) := blk_cell hxb 7
  have z7 := blk_frozen hxb 7
  have e0 : W.cell? ⟨q0, 0, none⟩ = some (ptrV (xb who)) := (k0.ext xW).cell 0
  have f1 : V.cell? ⟨q1, 0, none⟩ = some (fnV fa ca) := (k1.kp hkp).cell 0
  have HM := Lib.hid hmv
  have KV := Lib.hid (hmv.2.1.blk K0.out (fun e => Nat.lt_irrefl _ (h.lt _ e)))
  have XW := Lib.hid xW; have HW := Lib.hid hW; have HV := Lib.hid hV
  obtain ⟨xw, Hxw⟩ : ∃ q, Hid (xb who = q) := ⟨_, rfl⟩
  rw [Hxw.out] at y7 z7 e0 HV
  clear h hc k0 k1 ka hA hxb hCx gV hgo hmv hkp hW hV xW
  go_enter Tryz.func258, Tryz.ntmps258
  go_upto_region 1 with fail
  (try rw [HW.out])
  clear HW
  go_upto_region 2 with fail
  (try rw [HV.out])
  clear HV
  go_wp2_with fail
  refine ON.out.mono ?_
  rintro e w2 ⟨nv, done, r', rfl, ho, hx⟩
  have HO := Lib.hid ho; have HX := Lib.hid hx
  have K3 := Lib.hid (blk_ext KV.out hx)
  have s0 := blk_cell K3.out 0; have z0 := blk_frozen K3.out 0; have s1 := blk_cell K3.out 1; have z1 := blk_frozen K3.out 1; have s2 := blk_cell K3.out 2; have z2 := blk_frozen K3.out 2; have s3 := blk_cell K3.out 3; have z3 := blk_frozen K3.out 3; have s4 := blk_cell K3.out 4; have z4 := blk_frozen K3.out 4; have s5 := blk_cell K3.out 5; have z5 := blk_frozen K3.out 5; have s6 := blk_cell K3.out 6; have z6 := blk_frozen K3.out 6
  clear ho hx y7 z7
  go_wp2_with fail
  refine bodyPost_ret (results_tmp_row (p := 5) (u := 4) rfl _ _ (w.heap.size) _ #[.bool done, .int .i64 (r'.er : Int), .bool r'.granted, .int .i64 r'.left, .int .i64 r'.wait, .int .i64 r'.ser, .int .i64 r'.now] (0, 0) _ rfl (row7 K3.out _ _ _ _ _ _ _) Tryz.underlying41 (by rfl) (by kernel_rfl)) rfl ?_
  exact sk_fin hN XW.out (Nat.le_refl _) (HM.out.ext HX.out) HO.out _ _ _ _ _ _ _
set_option maxHeartbeats 2000000 in
theorem k_mvS_count (w : World) (g : CoK) (O C : Nat → Prop) (xb : Nat → Nat) (L : List AccE) (s : KSt) (who u : Nat) (x : PCall) (res : Bool) (ser : Int) (f : Found) (ce : PCell) (rp : KRep) (stop : Nat) (fn : FuncId) (caps : Array Value) (h : CoAt w g O C xb L s) (hc : s.call who = .run x res ser (.mvS 32 1 stop u (.count f ce rp))) (hL : L.length ≤ 100000) (hw : who < 64) (hu : s.ws.getD 32 0 = u) (hu2 : u + 1 ≤ 4611686018427387903)
    (hk : KontAt w (XO C O) (cidOf g who (xb who) x) (fnV fn caps) (.mvS 32 1 stop u (.count f ce rp))) :
    Calls Tryz.prog fn caps w (SK w g O C xb who (L.length + 1) x ({ s with ws := s.ws.set 32 (u + 1), hs := s.hs.set 32 [] }.put who (.run x true ser (.mvS 32 1 stop u (.count f ce rp))))
      (.on (.put f ce rp))) := by
  obtain ⟨p0, p1, p2, p3, p4, p5, p6, sv, tv, hfn, k0, k1, k2, k3, k4, k5, k6, q0, q1, av, hsv, htv, kq0, kq1, ka⟩ := hk
  subst hsv htv
  injection hfn with hfn h1 h2
  injection hfn with hfn
  subst hfn h2
  obtain ⟨b0, rfl⟩ := fnV_ptr k0; obtain ⟨b1, rfl⟩ := fnV_ptr k1; obtain ⟨b2, rfl⟩ := fnV_ptr k2; obtain ⟨b3, rfl⟩ := fnV_ptr k3; obtain ⟨b4, rfl⟩ := fnV_ptr k4; obtain ⟨b5, rfl⟩ := fnV_ptr k5; obtain ⟨b6, rfl⟩ := fnV_ptr k6
  obtain ⟨c0, rfl⟩ := fnV_ptr kq0; obtain ⟨c1, rfl⟩ := fnV_ptr kq1
  obtain ⟨W, hW⟩ : ∃ W, (w.alloc (.cells #[.bool false, .int .i64 0, .bool false, .int .i64 0, .int .i64 0, .int .i64 0, .int .i64 0] 41)) = W := ⟨_, rfl⟩
  have xW : Ext w W := by rw [← hW]; exact ((Ext.refl w).alloc _)
  have K0 := Lib.hid (show W.heap[w.heap.size]? = some (.cells #[.bool false, .int .i64 0, .bool false, .int .i64 0, .int .i64 0, .int .i64 0, .int .i64 0] 41 (0, 0)) by rw [← hW]; exact blk_new w _)
  have hA := h.xg xW (Nat.le_refl _) (blk_lt K0.out)
  obtain ⟨v, hv⟩ : ∃ v, u + 1 = v := ⟨_, rfl⟩
  rw [hv] at hu2 ⊢
  have SW := Lib.hid (xswap_gen W g (XG O w.heap.size) C xb L (L ++ [⟨who, 2, 32, u, v, true⟩]) s { s with ws := s.ws.set 32 v, hs := s.hs.set 32 [] } who 32 u (v : Int) x res ser _ true hA hc hc hw
    (fun z hz => kswap_hit z g (XG O w.heap.size) C xb L s who 32 u v 0 0 (v : Int) none [] [] (hA.ext hz) (by omega) hw (by omega) hu rfl rfl (CellsF.nil z _)))
  have e0 : W.cell? ⟨b0, 0, none⟩ = some (ptrV (xb who)) := (k0.ext xW).cell 0
  have e1 : W.cell? ⟨b1, 0, none⟩ = some (.int .i64 32) := (k1.ext xW).cell 0
  have e2 : W.cell? ⟨b2, 0, none⟩ = some (.int .u64 (u : Int)) := (k2.ext xW).cell 0
  have e3 : W.cell? ⟨b3, 0, none⟩ = some (.int .u64 1) := (k3.ext xW).cell 0
  have HLT := Lib.hid h.lt
  have Hc := Lib.hid hc
  have HK2 := Lib.hid k2; have HK3 := Lib.hid k3; have HK6 := Lib.hid k6; have HQ0 := Lib.hid kq0; have HQ1 := Lib.hid kq1; have HKA := Lib.hid ka
  have XW := Lib.hid xW; have HW := Lib.hid hW
  have HNL := Lib.hid (show (L ++ [(⟨who, 2, 32, u, v, true⟩ : AccE)]).length ≤ L.length + 1 by simp)
  have hwv : IntKind.u64.wrap ((u : Int) + 1) = (v : Int) := by rw [IntKind.wrap_u64]; omega
  have HV := Lib.hid hv; have HU2 := Lib.hid hu2
  clear h hc hu k0 k1 k2 k3 k4 k5 k6 kq0 kq1 ka hA xW hW hL hv hu2
  go_enter Tryz.func278, Tryz.ntmps278
  go_upto_region 1 with fail
  (try rw [HW.out])
  clear HW
  go_wp2_with fail
  refine SW.out.mono ?_
  rintro e w2 ⟨rfl, hg⟩
  obtain ⟨C', hmv⟩ := hg.mov
  have HM := Lib.hid hmv
  have hkp := hmv.kpg XW.out (Nat.le_refl w.heap.size)
  have KR := Lib.hid (hmv.2.1.blk K0.out (fun e => Nat.lt_irrefl _ (HLT.out _ e)))
  have f2 : w2.cell? ⟨b2, 0, none⟩ = some (.int .u64 (u : Int)) := (HK2.out.kp hkp).cell 0
  have f3 : w2.cell? ⟨b3, 0, none⟩ = some (.int .u64 1) := (HK3.out.kp hkp).cell 0
  have f6 : w2.cell? ⟨b6, 0, none⟩ = some (fnV 258 #[ptrV c0, ptrV c1]) := (HK6.out.kp hkp).cell 0
  have TH := Lib.hid (k_put3 w2 g (XG O w.heap.size) C' xb _ _ who v c0 c1 (L.length + 1) x res ser _ f ce rp av hmv.1 Hc.out HNL.out hw (HQ0.out.kp hkp) (HQ1.out.kp hkp) (HKA.out.kp hkp))
  clear hmv hg hkp e0 e1 e2 e3
  go_wp2_with fail
  refine TH.out.mono ?_
  rintro e w3 ⟨nv, done, r', C2, L2, hl2, rfl, hm2, ho⟩
  have HO := Lib.hid ho; have HL2 := Lib.hid hl2
  have HM2 := Lib.hid (HM.out.trans hm2)
  have hnC : ¬ C' w.heap.size := fun e => HM.out.1.co _ e (.inr rfl)
  have K3 := Lib.hid (hm2.2.1.blk KR.out hnC)
  have r0 := blk_cell K3.out 0; have z0 := blk_frozen K3.out 0; have r1 := blk_cell K3.out 1; have z1 := blk_frozen K3.out 1; have r2 := blk_cell K3.out 2; have z2 := blk_frozen K3.out 2; have r3 := blk_cell K3.out 3; have z3 := blk_frozen K3.out 3; have r4 := blk_cell K3.out 4; have z4 := blk_frozen K3.out 4; have r5 := blk_cell K3.out 5; have z5 := blk_frozen K3.out 5; have r6 := blk_cell K3.out 6; have z6 := blk_frozen K3.out 6
  clear ho hl2 hm2 hnC f2 f3 f6
  go_wp2_with fail
  refine bodyPost_ret (results_tmp_row (p := 8) (u := 7) rfl _ _ (w.heap.size) _ #[.bool done, .int .i64 (r'.er : Int), .bool r'.granted, .int .i64 r'.left, .int .i64 r'.wait, .int .i64 r'.ser, .int .i64 r'.now] (0, 0) _ rfl (row7 K3.out _ _ _ _ _ _ _) Tryz.underlying41 (by rfl) (by kernel_rfl)) rfl ?_
  exact sk_fin HL2.out XW.out (Nat.le_refl _) HM2.out HO.out _ _ _ _ _ _ _
end

section
open Go.RowKit

set_option maxRecDepth 100000 in
set_option maxHeartbeats 4000000 in
theorem k_put_hit (w : World) (g : CoK) (O C : Nat → Prop) (xb : Nat → Nat) (L : List AccE) (s : KSt) (who : Nat) (x : PCall) (res : Bool) (ser : Int) (f : Found) (ce : PCell) (rp : KRep) (fn : FuncId) (caps : Array Value) (h : CoAt w g O C xb L s) (hc : s.call who = .run x res ser (.put f ce rp)) (hL : L.length ≤ 100000) (hw : who < 64) (hword : f.word < 34) (hu : s.ws.getD f.word 0 = f.v) (hv : f.v < 4611686018427387904)
    (hk : PutAt w (XO C O) (cidOf g who (xb who) x) (fnV fn caps) f ce rp) (hat : f.at_ ≤ f.cells.length) (hth : f.there = true → f.at_ < f.cells.length) (hcl : f.cells.length ≤ 5000) (hkl : ce.key.length ≤ 255) :
    Calls Tryz.prog fn caps w (SK w g O C xb who (L.length + 1) x { s with ws := s.ws.set f.word (f.v + 1), hs := s.hs.set f.word (withK f.cells f.at_ f.there ce) } (if f.there = false then .fin rp else leaveK res rp)) := by
  obtain ⟨p0, p1, p2, p3, p4, p5, hfn, k0, ⟨Af, cf, rsf, k1, hcf⟩, k2, k3, ⟨rc, k4, hpc⟩, k5⟩ := hk
  injection hfn with hfn h1 h2
  injection hfn with hfn
  subst hfn h2
  obtain ⟨b0, rfl, _⟩ := k0.ptr; obtain ⟨b1, rfl, _⟩ := k1.ptr; obtain ⟨b2, rfl, _⟩ := k2.ptr; obtain ⟨b3, rfl, _⟩ := k3.ptr; obtain ⟨b4, rfl, _⟩ := k4.ptr; obtain ⟨b5, rfl, _⟩ := k5.ptr
  obtain ⟨W, hW⟩ : ∃ W, (w.alloc (.cells #[.bool false, .int .i64 0, .bool false, .int .i64 0, .int .i64 0, .int .i64 0, .int .i64 0] 41)) = W := ⟨_, rfl⟩
  have xW : Ext w W := by rw [← hW]; exact ((Ext.refl w).alloc _)
  have K0 := Lib.hid (show W.heap[w.heap.size]? = some (.cells #[.bool false, .int .i64 0, .bool false, .int .i64 0, .int .i64 0, .int .i64 0, .int .i64 0] 41 (0, 0)) by rw [← hW]; exact blk_new w _)
  have hA := h.xg xW (Nat.le_refl _) (blk_lt K0.out)
  have kp0 : Kp w W (XO C O) (XO C (XG O w.heap.size)) := Kp.of (S := fun _ => False) (GB.of_ext _ xW) (fun _ _ e => e.elim) (fun i hi e => e.imp id (fun e => e.resolve_right (by omega)))
  obtain ⟨there, Hth⟩ : ∃ b, Hid (f.there = b) := ⟨_, rfl⟩
  rw [Hth.out] at k3 hth ⊢
  obtain ⟨out, Hout⟩ : ∃ o, Hid ((if there = false then KOut.fin rp else leaveK res rp) = o) := ⟨_, rfl⟩
  rw [Hout.out]
  obtain ⟨lw, Hlw⟩ : ∃ l, Hid (withK f.cells f.at_ there ce = l) := ⟨_, rfl⟩
  have WI := Lib.hid (fun u (y : Ext W u) => (show Calls Tryz.prog 256 #[.slice Af f.cells.length cf, .int .i64 (f.at_ : Int), .bool there, .agg #[.int .i64 (ce.pol : Int), .slice rc.K ce.key.length rc.kc, .int .i64 ce.tat, .slice rc.H ce.held.length rc.hc]] u (WithR (XO C (XG O w.heap.size)) lw u) by
    rw [← Hlw.out]
    cases there with
    | true => unfold withK; rw [if_pos rfl]; exact bwith_has u _ Af f.cells.length cf f.at_ f.cells rsf ce rc (hA.newer.ext y) rfl hcl (hcf.kp (kp0.trans (Kp.ext _ y))) (hpc.kp (kp0.trans (Kp.ext _ y))) (hth rfl)
    | false => unfold withK; rw [if_neg Bool.false_ne_true]; exact bwith_new u _ Af f.cells.length cf f.at_ f.cells rsf ce rc (hA.newer.ext y) rfl hcl (hcf.kp (kp0.trans (Kp.ext _ y))) (hpc.kp (kp0.trans (Kp.ext _ y))) hat hkl))
  rw [Hlw.out]
  obtain ⟨nv1, hnv⟩ : ∃ v, f.v + 1 = v := ⟨_, rfl⟩
  rw [hnv]
  have SW := Lib.hid (fun u (y : Ext W u) A n c rs (hn : lw.length = n) (hq : CellsF u (XO C (XG O w.heap.size)) A lw rs) => kswap_hit u g (XG O w.heap.size) C xb L s who f.word f.v nv1 n c (nv1 : Int) A lw rs (hA.ext y) (by omega) hw hword hu rfl hn hq)
  have hwv : IntKind.u64.wrap ((f.v : Int) + 1) = (nv1 : Int) := by rw [IntKind.wrap_u64]; omega
  obtain ⟨xw, Hxw⟩ : ∃ q, Hid (xb who = q) := ⟨_, rfl⟩
  obtain ⟨z4, z5, -, -, -, -⟩ := hA.call hw hc
  rw [Hxw.out] at z4 z5 k0
  have e0 : W.cell? ⟨b0, 0, none⟩ = some (ptrV xw) := (k0.ext xW).cell 0
  have y4 : W.cell? ⟨xw, 4, none⟩ = some (ptrV g.gx) := z4
  have y5 : W.cell? ⟨xw, 5, none⟩ = some (.int .i64 (who : Int)) := z5
  have c2 : W.cell? ⟨g.gx, 2, none⟩ = some (ptrV g.gl) := hA.rd.c2
  have l0 : W.cell? ⟨g.gl, 0, none⟩ = some (ptrV g.gb) := hA.rd.l0
  have f0 : W.cell? ⟨b1, 0, none⟩ = some (.int .i64 (f.word : Int)) := (k1.ext xW).cell 0
  have f1 : W.cell? ⟨b1, 1, none⟩ = some (.int .u64 (f.v : Int)) := (k1.ext xW).cell 1
  have f2 : W.cell? ⟨b1, 2, none⟩ = some (.slice Af f.cells.length cf) := (k1.ext xW).cell 2
  have e2 : W.cell? ⟨b2, 0, none⟩ = some (.int .i64 (f.at_ : Int)) := (k2.ext xW).cell 0
  have e3 : W.cell? ⟨b3, 0, none⟩ = some (.bool there) := (k3.ext xW).cell 0
  have d0 : W.cell? ⟨b4, 0, none⟩ = some (.int .i64 (ce.pol : Int)) := (k4.ext xW).cell 0
  have d1 : W.cell? ⟨b4, 1, none⟩ = some (.slice rc.K ce.key.length rc.kc) := (k4.ext xW).cell 1
  have d2 : W.cell? ⟨b4, 2, none⟩ = some (.int .i64 ce.tat) := (k4.ext xW).cell 2
  have d3 : W.cell? ⟨b4, 3, none⟩ = some (.slice rc.H ce.held.length rc.hc) := (k4.ext xW).cell 3
  have HLT := Lib.hid h.lt
  have Hc := Lib.hid hc
  have HK0 := Lib.hid k0; have HK1 := Lib.hid k1; have HK2 := Lib.hid k2; have HK3 := Lib.hid k3; have HK4 := Lib.hid k4; have HK5 := Lib.hid k5
  have XW := Lib.hid xW; have HW := Lib.hid hW
  have HNL := Lib.hid (show (L ++ [(⟨who, 2, f.word, f.v, nv1, true⟩ : AccE)]).length ≤ L.length + 1 by simp)
  clear h hc hu k0 k1 k2 k3 k4 k5 hA xW hW hL hnv kp0 hcf hpc hat hth hcl hkl hword z4 z5 hv
  go_enter Tryz.func255, Tryz.ntmps255
  go_upto_region 1 with fail
  (try rw [HW.out])
  clear HW
  go_cut [36] (fun v36 wd => v36 = .bool false ∧ ∃ C', CoMov W g (XG O w.heap.size) C xb (L ++ [⟨who, 2, f.word, f.v, nv1, true⟩]) { s with ws := s.ws.set f.word nv1, hs := s.hs.set f.word lw } C' wd)
  case first =>
    go_region_held3 (fun w' => w'.cell? ⟨b0, 0, none⟩ = some (ptrV xw) ∧ w'.cell? ⟨xw, 4, none⟩ = some (ptrV g.gx) ∧ w'.cell? ⟨xw, 5, none⟩ = some (.int .i64 (who : Int)) ∧ w'.cell? ⟨g.gx, 2, none⟩ = some (ptrV g.gl) ∧ w'.cell? ⟨g.gl, 0, none⟩ = some (ptrV g.gb) ∧ w'.cell? ⟨b1, 0, none⟩ = some (.int .i64 (f.word : Int)) ∧ w'.cell? ⟨b1, 1, none⟩ = some (.int .u64 (f.v : Int)) ∧ w'.cell? ⟨b1, 2, none⟩ = some (.slice Af f.cells.length cf) ∧ w'.cell? ⟨b2, 0, none⟩ = some (.int .i64 (f.at_ : Int)) ∧ w'.cell? ⟨b3, 0, none⟩ = some (.bool there) ∧ w'.cell? ⟨b4, 0, none⟩ = some (.int .i64 (ce.pol : Int)) ∧ w'.cell? ⟨b4, 1, none⟩ = some (.slice rc.K ce.key.length rc.kc) ∧ w'.cell? ⟨b4, 2, none⟩ = some (.int .i64 ce.tat) ∧ w'.cell? ⟨b4, 3, none⟩ = some (.slice rc.H ce.held.length rc.hc))
      (((try go_split_ands); exact ⟨(by first | (with_reducible exact drew_cell e0) | (with_reducible exact e0) | (with_reducible exact te0) | (with_reducible exact drew_cell te0) | (with_reducible assumption) | (with_reducible exact cell_past te0 _) | (with_reducible exact drew_cell (cell_past e0 _))), (by first | (with_reducible exact drew_cell y4) | (with_reducible exact y4) | (with_reducible exact ty4) | (with_reducible exact drew_cell ty4) | (with_reducible assumption) | (with_reducible exact cell_past ty4 _) | (with_reducible exact drew_cell (cell_past y4 _))), (by first | (with_reducible exact drew_cell y5) | (with_reducible exact y5) | (with_reducible exact ty5) | (with_reducible exact drew_cell ty5) | (with_reducible assumption) | (with_reducible exact cell_past ty5 _) | (with_reducible exact drew_cell (cell_past y5 _))), (by first | (with_reducible exact drew_cell c2) | (with_reducible exact c2) | (with_reducible exact tc2) | (with_reducible exact drew_cell tc2) | (with_reducible assumption) | (with_reducible exact cell_past tc2 _) | (with_reducible exact drew_cell (cell_past c2 _))), (by first | (with_reducible exact drew_cell l0) | (with_reducible exact l0) | (with_reducible exact tl0) | (with_reducible exact drew_cell tl0) | (with_reducible assumption) | (with_reducible exact cell_past tl0 _) | (with_reducible exact drew_cell (cell_past l0 _))), (by first | (with_reducible exact drew_cell f0) | (with_reducible exact f0) | (with_reducible exact tf0) | (with_reducible exact drew_cell tf0) | (with_reducible assumption) | (with_reducible exact cell_past tf0 _) | (with_reducible exact drew_cell (cell_past f0 _))), (by first | (with_reducible exact drew_cell f1) | (with_reducible exact f1) | (with_reducible exact tf1) | (with_reducible exact drew_cell tf1) | (with_reducible assumption) | (with_reducible exact cell_past tf1 _) | (with_reducible exact drew_cell (cell_past f1 _))), (by first | (with_reducible exact drew_cell f2) | (with_reducible exact f2) | (with_reducible exact tf2) | (with_reducible exact drew_cell tf2) | (with_reducible assumption) | (with_reducible exact cell_past tf2 _) | (with_reducible exact drew_cell (cell_past f2 _))), (by first | (with_reducible exact drew_cell e2) | (with_reducible exact e2) | (with_reducible exact te2) | (with_reducible exact drew_cell te2) | (with_reducible assumption) | (with_reducible exact cell_past te2 _) | (with_reducible exact drew_cell (cell_past e2 _))), (by first | (with_reducible exact drew_cell e3) | (with_reducible exact e3) | (with_reducible exact te3) | (with_reducible exact drew_cell te3) | (with_reducible assumption) | (with_reducible exact cell_past te3 _) | (with_reducible exact drew_cell (cell_past e3 _))), (by first | (with_reducible exact drew_cell d0) | (with_reducible exact d0) | (with_reducible exact td0) | (with_reducible exact drew_cell td0) | (with_reducible assumption) | (with_reducible exact cell_past td0 _) | (with_reducible exact drew_cell (cell_past d0 _))), (by first | (with_reducible exact drew_cell d1) | (with_reducible exact d1) | (with_reducible exact td1) | (with_reducible exact drew_cell td1) | (with_reducible assumption) | (with_reducible exact cell_past td1 _) | (with_reducible exact drew_cell (cell_past d1 _))), (by first | (with_reducible exact drew_cell d2) | (with_reducible exact d2) | (with_reducible exact td2) | (with_reducible exact drew_cell td2) | (with_reducible assumption) | (with_reducible exact cell_past td2 _) | (with_reducible exact drew_cell (cell_past d2 _))), (by first | (with_reducible exact drew_cell d3) | (with_reducible exact d3) | (with_reducible exact td3) | (with_reducible exact drew_cell td3) | (with_reducible assumption) | (with_reducible exact cell_past td3 _) | (with_reducible exact drew_cell (cell_past d3 _)))⟩))
      (first
        | (go_at_call 256; (with_reducible refine (WI.out W.drew (Ext.refl W).drew).mono ?_); rintro e w2 ⟨A9, n9, c9, rs9, hn9, rfl, hq9, hx9⟩; have HX9 := Lib.hid ((Ext.refl W).drew.trans hx9); have SW9 := Lib.hid (SW.out w2 HX9.out A9 n9 c9 rs9 hn9 hq9); have te0 := ext_cell (HX9.out) e0; have ty4 := ext_cell (HX9.out) y4; have ty5 := ext_cell (HX9.out) y5; have tc2 := ext_cell (HX9.out) c2; have tl0 := ext_cell (HX9.out) l0; have tf0 := ext_cell (HX9.out) f0; have tf1 := ext_cell (HX9.out) f1; have tf2 := ext_cell (HX9.out) f2; have te2 := ext_cell (HX9.out) e2; have te3 := ext_cell (HX9.out) e3; have td0 := ext_cell (HX9.out) d0; have td1 := ext_cell (HX9.out) d1; have td2 := ext_cell (HX9.out) d2; have td3 := ext_cell (HX9.out) d3; clear hn9 hq9 hx9)
        | (go_at_call 80; (with_reducible refine SW9.out.mono ?_); rintro e w3 ⟨rfl, hg⟩; obtain ⟨C', hm⟩ := hg.mov; have HM := Lib.hid (hm.back HX9.out); have hkp := hm.kpg (XW.out.trans HX9.out) (Nat.le_refl w.heap.size); have hca := hm.1.call hw Hc.out; rw [Hxw.out] at hca;
            have te0 : w3.cell? ⟨b0, 0, none⟩ = some (ptrV xw) := (HK0.out.kp hkp).cell 0; have ty4 : w3.cell? ⟨xw, 4, none⟩ = some (ptrV g.gx) := hca.1; have ty5 : w3.cell? ⟨xw, 5, none⟩ = some (.int .i64 (who : Int)) := hca.2.1; have tc2 : w3.cell? ⟨g.gx, 2, none⟩ = some (ptrV g.gl) := hm.1.rd.c2; have tl0 : w3.cell? ⟨g.gl, 0, none⟩ = some (ptrV g.gb) := hm.1.rd.l0;
            have tf0 : w3.cell? ⟨b1, 0, none⟩ = some (.int .i64 (f.word : Int)) := (HK1.out.kp hkp).cell 0; have tf1 : w3.cell? ⟨b1, 1, none⟩ = some (.int .u64 (f.v : Int)) := (HK1.out.kp hkp).cell 1; have tf2 : w3.cell? ⟨b1, 2, none⟩ = some (.slice Af f.cells.length cf) := (HK1.out.kp hkp).cell 2; have te2 : w3.cell? ⟨b2, 0, none⟩ = some (.int .i64 (f.at_ : Int)) := (HK2.out.kp hkp).cell 0; have te3 : w3.cell? ⟨b3, 0, none⟩ = some (.bool there) := (HK3.out.kp hkp).cell 0;
            have td0 : w3.cell? ⟨b4, 0, none⟩ = some (.int .i64 (ce.pol : Int)) := (HK4.out.kp hkp).cell 0; have td1 : w3.cell? ⟨b4, 1, none⟩ = some (.slice rc.K ce.key.length rc.kc) := (HK4.out.kp hkp).cell 1; have td2 : w3.cell? ⟨b4, 2, none⟩ = some (.int .i64 ce.tat) := (HK4.out.kp hkp).cell 2; have td3 : w3.cell? ⟨b4, 3, none⟩ = some (.slice rc.H ce.held.length rc.hc) := (HK4.out.kp hkp).cell 3; clear hm hg hkp hca))
    all_goals
      go_wp2_with fail
      go_meet
      exact ⟨rfl, _, HM.out⟩
  case rest =>
    obtain ⟨rfl, C', hm⟩ := hcut
    have HM := Lib.hid hm
    have hkp := hm.kpg XW.out (Nat.le_refl w.heap.size)
    have hca := hm.1.call hw Hc.out
    have KR := Lib.hid (hm.2.1.blk K0.out (fun e => Nat.lt_irrefl _ (HLT.out _ e)))
    have HX := Lib.hid hm.1.newer
    rw [Hxw.out] at hca
    have g0 : wc.cell? ⟨b0, 0, none⟩ = some (ptrV xw) := (HK0.out.kp hkp).cell 0
    have g3 : wc.cell? ⟨b3, 0, none⟩ = some (.bool there) := (HK3.out.kp hkp).cell 0
    have s0 : wc.cell? ⟨b5, 0, none⟩ = some (.int .i64 (rp.er : Int)) := (HK5.out.kp hkp).cell 0
    have s1 : wc.cell? ⟨b5, 1, none⟩ = some (.bool rp.granted) := (HK5.out.kp hkp).cell 1
    have s2 : wc.cell? ⟨b5, 2, none⟩ = some (.int .i64 rp.left) := (HK5.out.kp hkp).cell 2
    have s3 : wc.cell? ⟨b5, 3, none⟩ = some (.int .i64 rp.wait) := (HK5.out.kp hkp).cell 3
    have s4 : wc.cell? ⟨b5, 4, none⟩ = some (.int .i64 rp.ser) := (HK5.out.kp hkp).cell 4
    have s5 : wc.cell? ⟨b5, 5, none⟩ = some (.int .i64 rp.now) := (HK5.out.kp hkp).cell 5
    have EN := Lib.hid (end_out wc (XO C' (XG O w.heap.size)) (cidOf g who (xb who) x) rp)
    have LV := Lib.hid (cleave_out wc (XO C' (XG O w.heap.size)) (cidOf g who (xb who) x) res rp HX.out (by show wc.cell? ⟨xb who, 7, none⟩ = _; rw [Hxw.out]; exact hca.2.2.1))
    rw [show (cidOf g who (xb who) x).xb = xw from Hxw.out] at LV
    clear hm hkp hca e0 y4 y5 c2 l0 f0 f1 f2 e2 e3 d0 d1 d2 d3 hwv
    cases there with
    | false =>
      go_wp2_with fail
      refine EN.out.mono ?_
      rintro e w2 ⟨nv, done, r', rfl, ho, hx⟩
      rw [show KOut.fin rp = out by rw [← Hout.out]; first | exact (if_pos rfl).symm | exact (if_pos trivial).symm] at ho
      have HO := Lib.hid ho; have HXX := Lib.hid hx
      have K3 := Lib.hid (blk_ext KR.out hx)
      have r0 := blk_cell K3.out 0; have z0 := blk_frozen K3.out 0; have r1 := blk_cell K3.out 1; have z1 := blk_frozen K3.out 1; have r2 := blk_cell K3.out 2; have z2 := blk_frozen K3.out 2; have r3 := blk_cell K3.out 3; have z3 := blk_frozen K3.out 3; have r4 := blk_cell K3.out 4; have z4 := blk_frozen K3.out 4; have r5 := blk_cell K3.out 5; have z5 := blk_frozen K3.out 5; have r6 := blk_cell K3.out 6; have z6 := blk_frozen K3.out 6
      clear ho hx
      go_wp2_with fail
      refine bodyPost_ret (results_tmp_row (p := 7) (u := 6) rfl _ _ (w.heap.size) _ #[.bool done, .int .i64 (r'.er : Int), .bool r'.granted, .int .i64 r'.left, .int .i64 r'.wait, .int .i64 r'.ser, .int .i64 r'.now] (0, 0) _ rfl (row7 K3.out _ _ _ _ _ _ _) Tryz.underlying41 (by rfl) (by kernel_rfl)) rfl ?_
      exact sk_fin HNL.out XW.out (Nat.le_refl _) (HM.out.ext HXX.out) HO.out _ _ _ _ _ _ _
    | true =>
      go_wp2_with fail
      refine LV.out.mono ?_
      rintro e w2 ⟨nv, done, r', rfl, ho, hx⟩
      rw [show leaveK res rp = out by rw [← Hout.out]; first | exact (if_neg (by decide)).symm | simp] at ho
      have HO := Lib.hid ho; have HXX := Lib.hid hx
      have K3 := Lib.hid (blk_ext KR.out hx)
      have r0 := blk_cell K3.out 0; have z0 := blk_frozen K3.out 0; have r1 := blk_cell K3.out 1; have z1 := blk_frozen K3.out 1; have r2 := blk_cell K3.out 2; have z2 := blk_frozen K3.out 2; have r3 := blk_cell K3.out 3; have z3 := blk_frozen K3.out 3; have r4 := blk_cell K3.out 4; have z4 := blk_frozen K3.out 4; have r5 := blk_cell K3.out 5; have z5 := blk_frozen K3.out 5; have r6 := blk_cell K3.out 6; have z6 := blk_frozen K3.out 6
      clear ho hx
      go_wp2_with fail
      refine bodyPost_ret (results_tmp_row (p := 7) (u := 6) rfl _ _ (w.heap.size) _ #[.bool done, .int .i64 (r'.er : Int), .bool r'.granted, .int .i64 r'.left, .int .i64 r'.wait, .int .i64 r'.ser, .int .i64 r'.now] (0, 0) _ rfl (row7 K3.out _ _ _ _ _ _ _) Tryz.underlying41 (by rfl) (by kernel_rfl)) rfl ?_
      exact sk_fin HNL.out XW.out (Nat.le_refl _) (HM.out.ext HXX.out) HO.out _ _ _ _ _ _ _
end

section
open Go.RowKit

theorem fnV_ptr' {w : World} {X : Nat → Prop} {p v : Value} (h : BoxX w X p v) : ∃ b, p = .pointer (some ⟨b, 0, none⟩) := by
  obtain ⟨b, h, _⟩ := h.ptr
  exact ⟨b, h⟩
theorem CoRd.kpx {w w' : World} {X X' : Nat → Prop} {g : CoK} (h : CoRd w X g) (k : Kp w w' X X') (x : Ext w w') : CoRd w' X' g :=
  ⟨ext_cell x h.c0, ext_cell x h.c1, ext_cell x h.c2, ext_cell x h.l0, ext_cell x h.l1, ext_cell x h.b0, h.prd.ext x, h.pfz.kp k⟩
set_option maxHeartbeats 2000000 in
theorem lentered_th (w : World) (X : Nat → Prop) (d : CId) (sum word v n c q0 q1 : Nat) (A : Option Addr) (out : KOut) (hv : v ≠ 0) (hf : v < 4611686018427387904)
    (TH : ∀ u, Ext w u → w.heap.size < u.heap.size → Calls Tryz.prog 190 #[.int .i64 (word : Int), .int .u64 (v : Int), .slice A n c, ptrV q0, ptrV q1] u (OutR (XG X w.heap.size) d out u)) :
    Calls Tryz.prog 241 #[ptrV d.gl, .int .i64 (d.who : Int), .int .u64 (sum : Int), .int .i64 (word : Int), .int .u64 (v : Int), .slice A n c, fnV 190 #[ptrV q0, ptrV q1]] w (OutR X d out w) := by
  obtain ⟨W, hW⟩ : ∃ W, (w.alloc (.cells #[.bool false, .int .i64 0, .bool false, .int .i64 0, .int .i64 0, .int .i64 0, .int .i64 0] 41)) = W := ⟨_, rfl⟩
  have xW : Ext w W := by rw [← hW]; exact ((Ext.refl w).alloc _)
  have K0 := Lib.hid (show W.heap[w.heap.size]? = some (.cells #[.bool false, .int .i64 0, .bool false, .int .i64 0, .int .i64 0, .int .i64 0, .int .i64 0] 41 (0, 0)) by rw [← hW]; exact blk_new w _)
  have CL := Lib.hid (TH W xW (blk_lt K0.out))
  have XW := Lib.hid xW; have HW := Lib.hid hW
  have b1 : ((v : Int) == 0) = false := by rw [beq_eq_false_iff_ne]; omega
  have b2 : ¬ (4611686018427387904 : Int) ≤ (v : Int) := by omega
  have b3 : decide ((4611686018427387904 : Int) ≤ (v : Int)) = false := decide_eq_false b2
  clear TH xW hW hv hf
  go_enter Tryz.func241, Tryz.ntmps241
  go_upto_region 1 with fail
  (try rw [HW.out])
  clear HW
  go_wp2_with fail
  refine CL.out.mono ?_
  rintro e w2 ⟨nv, done, r', rfl, ho, hx⟩
  have HO := Lib.hid ho; have HXX := Lib.hid hx
  have K3 := Lib.hid (blk_ext K0.out hx)
  have r0 := blk_cell K3.out 0; have z0 := blk_frozen K3.out 0; have r1 := blk_cell K3.out 1; have z1 := blk_frozen K3.out 1; have r2 := blk_cell K3.out 2; have z2 := blk_frozen K3.out 2; have r3 := blk_cell K3.out 3; have z3 := blk_frozen K3.out 3; have r4 := blk_cell K3.out 4; have z4 := blk_frozen K3.out 4; have r5 := blk_cell K3.out 5; have z5 := blk_frozen K3.out 5; have r6 := blk_cell K3.out 6; have z6 := blk_frozen K3.out 6
  clear ho hx
  go_wp2_with fail
  refine bodyPost_ret (results_tmp_row (p := 15) (u := 14) rfl _ _ (w.heap.size) _ #[.bool done, .int .i64 (r'.er : Int), .bool r'.granted, .int .i64 r'.left, .int .i64 r'.wait, .int .i64 r'.ser, .int .i64 r'.now] (0, 0) _ rfl (row7 K3.out _ _ _ _ _ _ _) Tryz.underlying41 (by rfl) (by kernel_rfl)) rfl ?_
  exact out_fin HO.out (XW.out.trans HXX.out) (Nat.le_refl _) _ _ _ _ _ _ _
set_option maxRecDepth 100000 in
set_option maxHeartbeats 4000000 in
/-- a shard's word is read, and it is found -/
theorem k_enter (w : World) (g : CoK) (O C : Nat → Prop) (xb : Nat → Nat) (L : List AccE) (s : KSt) (who sum word u : Nat) (x : PCall) (res : Bool) (ser : Int) (f : FuncId) (caps : Array Value) (out : KOut) (h : CoAt w g O C xb L s) (hc : s.call who = .run x res ser (.enter sum word .begin)) (hL : L.length ≤ 100000) (hw : who < 64) (hword : word < 34) (hu : s.ws.getD word 0 = u) (hu0 : u ≠ 0) (huf : u < 4611686018427387904)
    (hk : KontAt w (XO C O) (cidOf g who (xb who) x) (fnV f caps) (.enter sum word .begin))
    (TH : ∀ (v : World) (X : Nat → Prop) (q0 q1 n c : Nat) (A : Option Addr) (rs : List CRef), Newer v X → XAt v X g.gx who x res ser (xb who) → CoRd v X g → BoxX v X (ptrV q0) (ptrV (xb who)) → RowX v X (ptrV q1) (polV (polAt g.P x.pol)) → (s.hs.getD word []).length = n → CellsF v X A (s.hs.getD word []) rs →
      Calls Tryz.prog 190 #[.int .i64 (word : Int), .int .u64 (u : Int), .slice A n c, ptrV q0, ptrV q1] v (OutR X (cidOf g who (xb who) x) out v)) :
    Calls Tryz.prog f caps w (SK w g O C xb who (L.length + 1) x s out) := by
  obtain ⟨p0, p1, p2, p3, p4, tv, hfn, ⟨k0, k1⟩, k2, k3, k4, q0v, q1v, rfl, kq0, kq1⟩ := hk
  injection hfn with hfn h1 h2
  injection hfn with hfn
  subst hfn h2
  obtain ⟨b0, rfl⟩ := fnV_ptr' k0; obtain ⟨b1, rfl⟩ := fnV_ptr' k1; obtain ⟨b2, rfl⟩ := fnV_ptr' k2; obtain ⟨b3, rfl⟩ := fnV_ptr' k3; obtain ⟨b4, rfl⟩ := fnV_ptr' k4
  obtain ⟨q0, rfl⟩ := fnV_ptr' kq0; obtain ⟨q1, rfl, _⟩ := kq1.ptr
  obtain ⟨W, hW⟩ : ∃ W, (w.alloc (.cells #[.bool false, .int .i64 0, .bool false, .int .i64 0, .int .i64 0, .int .i64 0, .int .i64 0] 41)) = W := ⟨_, rfl⟩
  have xW : Ext w W := by rw [← hW]; exact ((Ext.refl w).alloc _)
  have K0 := Lib.hid (show W.heap[w.heap.size]? = some (.cells #[.bool false, .int .i64 0, .bool false, .int .i64 0, .int .i64 0, .int .i64 0, .int .i64 0] 41 (0, 0)) by rw [← hW]; exact blk_new w _)
  have hA := h.xg xW (Nat.le_refl _) (blk_lt K0.out)
  obtain ⟨n, Hn⟩ : ∃ n, Hid ((s.hs.getD word []).length = n) := ⟨_, rfl⟩
  have LD := Lib.hid (kload_any W.drew g (XG O w.heap.size) C xb L s who word u n (hA.ext (Ext.refl W).drew) (by omega) hw hword hu Hn.out)
  have e0 : W.cell? ⟨b0, 0, none⟩ = some (ptrV g.gl) := (k0.ext xW).cell 0
  have e1 : W.cell? ⟨b1, 0, none⟩ = some (.int .i64 (who : Int)) := (k1.ext xW).cell 0
  have e2 : W.cell? ⟨b2, 0, none⟩ = some (.int .i64 (word : Int)) := (k2.ext xW).cell 0
  have dl : W.cell? ⟨g.gl, 0, none⟩ = some (ptrV g.gb) := hA.rd.l0
  have HLT := Lib.hid h.lt
  have Hc := Lib.hid hc; have HTH := Lib.hid TH
  have HK0 := Lib.hid k0; have HK1 := Lib.hid k1; have HK2 := Lib.hid k2; have HK3 := Lib.hid k3; have HK4 := Lib.hid k4; have HQ0 := Lib.hid kq0; have HQ1 := Lib.hid kq1
  have XW := Lib.hid xW; have HW := Lib.hid hW
  have HNL := Lib.hid (show (L ++ [(⟨who, 1, word, u, 0, true⟩ : AccE)]).length ≤ L.length + 1 by simp)
  have Hu0 := Lib.hid hu0; have Huf := Lib.hid huf
  clear h hc hu k0 k1 k2 k3 k4 kq0 kq1 hA xW hW hL TH hu0 huf hword
  go_enter Tryz.func276, Tryz.ntmps276
  go_upto_region 1 with fail
  (try rw [HW.out])
  clear HW
  go_cut [7, 8] (fun v7 v8 wd => ∃ A c rs C', v7 = .int .u64 (u : Int) ∧ v8 = .slice A n c ∧ CellsF wd (XO C' (XG O w.heap.size)) A (s.hs.getD word []) rs ∧ CoMov W g (XG O w.heap.size) C xb (L ++ [⟨who, 1, word, u, 0, true⟩]) s C' wd)
  case first =>
    go_region_held3 (fun w' => w'.cell? ⟨b0, 0, none⟩ = some (ptrV g.gl) ∧ w'.cell? ⟨b1, 0, none⟩ = some (.int .i64 (who : Int)) ∧ w'.cell? ⟨b2, 0, none⟩ = some (.int .i64 (word : Int)) ∧ w'.cell? ⟨g.gl, 0, none⟩ = some (ptrV g.gb))
      (((try go_split_ands); exact ⟨(by first | (with_reducible exact drew_cell e0) | (with_reducible exact e0) | (with_reducible exact te0) | (with_reducible exact drew_cell te0) | (with_reducible assumption) | (with_reducible exact cell_past te0 _) | (with_reducible exact drew_cell (cell_past e0 _))), (by first | (with_reducible exact drew_cell e1) | (with_reducible exact e1) | (with_reducible exact te1) | (with_reducible exact drew_cell te1) | (with_reducible assumption) | (with_reducible exact cell_past te1 _) | (with_reducible exact drew_cell (cell_past e1 _))), (by first | (with_reducible exact drew_cell e2) | (with_reducible exact e2) | (with_reducible exact te2) | (with_reducible exact drew_cell te2) | (with_reducible assumption) | (with_reducible exact cell_past te2 _) | (with_reducible exact drew_cell (cell_past e2 _))), (by first | (with_reducible exact drew_cell dl) | (with_reducible exact dl) | (with_reducible exact tdl) | (with_reducible exact drew_cell tdl) | (with_reducible assumption) | (with_reducible exact cell_past tdl _) | (with_reducible exact drew_cell (cell_past dl _)))⟩))
      ((go_at_call 174; (with_reducible refine LD.out.mono ?_); rintro e w2 ⟨A, c, rs, C', rfl, hcf, hm⟩; have HCF := Lib.hid hcf; have HM := Lib.hid (hm.back (Ext.refl W).drew); have hkp := HM.out.kpg XW.out (Nat.le_refl w.heap.size); have te0 : w2.cell? ⟨b0, 0, none⟩ = some (ptrV g.gl) := (HK0.out.kp hkp).cell 0; have te1 : w2.cell? ⟨b1, 0, none⟩ = some (.int .i64 (who : Int)) := (HK1.out.kp hkp).cell 0; have te2 : w2.cell? ⟨b2, 0, none⟩ = some (.int .i64 (word : Int)) := (HK2.out.kp hkp).cell 0; have tdl : w2.cell? ⟨g.gl, 0, none⟩ = some (ptrV g.gb) := hm.1.rd.l0; clear hm hkp hcf))
    all_goals
      go_wp2_with fail
      go_meet
      exact ⟨_, _, _, _, rfl, rfl, HCF.out, HM.out⟩
  case rest =>
    obtain ⟨A, c, rs, C', rfl, rfl, hcf, hm⟩ := hcut
    have HM := Lib.hid hm
    have hkp := hm.kpg XW.out (Nat.le_refl w.heap.size)
    have KR := Lib.hid (hm.2.1.blk K0.out (fun e => Nat.lt_irrefl _ (HLT.out _ e)))
    have f0 : wc.cell? ⟨b0, 0, none⟩ = some (ptrV g.gl) := (HK0.out.kp hkp).cell 0
    have f1 : wc.cell? ⟨b1, 0, none⟩ = some (.int .i64 (who : Int)) := (HK1.out.kp hkp).cell 0
    have f2 : wc.cell? ⟨b2, 0, none⟩ = some (.int .i64 (word : Int)) := (HK2.out.kp hkp).cell 0
    have f3 : wc.cell? ⟨b3, 0, none⟩ = some (.int .u64 (sum : Int)) := (HK3.out.kp hkp).cell 0
    have f4 : wc.cell? ⟨b4, 0, none⟩ = some (fnV 190 #[ptrV q0, ptrV q1]) := (HK4.out.kp hkp).cell 0
    have hX := hm.1.newer
    have hxa := (hm.1.xat hw Hc.out).1
    have hrd := hm.1.rd
    have hq0 := HQ0.out.kp hkp
    have hq1 := HQ1.out.kp hkp
    have EN := Lib.hid (lentered_th wc (XO C' (XG O w.heap.size)) (cidOf g who (xb who) x) sum word u n c q0 q1 A out Hu0.out Huf.out (fun v y hz =>
      HTH.out v (XG (XO C' (XG O w.heap.size)) wc.heap.size) q0 q1 n c A rs (hX.xg y hz) (hxa.kp (kpg y (Nat.le_refl _)) (y.block _ (by obtain ⟨t, K, kc, e, _⟩ := hxa; exact blk_lt e))) (hrd.kpx (kpg y (Nat.le_refl _)) y) (hq0.kp (kpg y (Nat.le_refl _))) (hq1.kp (kpg y (Nat.le_refl _))) Hn.out (hcf.kp (kpg y (Nat.le_refl _)))))
    clear hm hkp hX hxa hrd hq0 hq1 hcf e0 e1 e2 dl
    go_wp2_with fail
    refine EN.out.mono ?_
    rintro e w2 ⟨nv, done, r', rfl, ho, hx⟩
    have HO := Lib.hid ho; have HXX := Lib.hid hx
    have K3 := Lib.hid (blk_ext KR.out hx)
    have r0 := blk_cell K3.out 0; have z0 := blk_frozen K3.out 0; have r1 := blk_cell K3.out 1; have z1 := blk_frozen K3.out 1; have r2 := blk_cell K3.out 2; have z2 := blk_frozen K3.out 2; have r3 := blk_cell K3.out 3; have z3 := blk_frozen K3.out 3; have r4 := blk_cell K3.out 4; have z4 := blk_frozen K3.out 4; have r5 := blk_cell K3.out 5; have z5 := blk_frozen K3.out 5; have r6 := blk_cell K3.out 6; have z6 := blk_frozen K3.out 6
    clear ho hx
    go_wp2_with fail
    refine bodyPost_ret (results_tmp_row (p := 6) (u := 5) rfl _ _ (w.heap.size) _ #[.bool done, .int .i64 (r'.er : Int), .bool r'.granted, .int .i64 r'.left, .int .i64 r'.wait, .int .i64 r'.ser, .int .i64 r'.now] (0, 0) _ rfl (row7 K3.out _ _ _ _ _ _ _) Tryz.underlying41 (by rfl) (by kernel_rfl)) rfl ?_
    exact sk_fin HNL.out XW.out (Nat.le_refl _) (HM.out.ext HXX.out) HO.out _ _ _ _ _ _ _
end

section
open Go.RowKit

/-- the ways that are shown -/
inductive KOk (P : List Pol) (s : KSt) (who : Nat) : Prop
  | find {x : PCall} {res : Bool} {ser : Int} {sum u : Nat} {t : Then} : s.call who = .run x res ser (.find sum t) → s.ws.getD 0 0 = 2 * u → u ≤ 4 → sum < 18446744073709551616 → KOk P s who
  | acq {x : PCall} {res : Bool} {sum word u : Nat} : s.call who = .run x res 0 (.enter sum word .begin) → word < 34 → s.ws.getD word 0 = u → u ≠ 0 → u < 4611686018427387904 → CellsOk P (s.hs.getD word []) → P.length ≤ 32 → KeyOk ⟨x.pol, x.key, 0, []⟩ → x.op = 2 →
      ((cellK (s.hs.getD word []) x.pol x.key).held.length : Int) ≠ (polAt P x.pol).perm → KOk P s who
  | rel {x : PCall} {res : Bool} {ser : Int} {sum word u : Nat} : s.call who = .run x res ser (.enter sum word .begin) → word < 34 → s.ws.getD word 0 = u → u ≠ 0 → u < 4611686018427387904 → CellsOk P (s.hs.getD word []) → P.length ≤ 32 → KeyOk ⟨x.pol, x.key, 0, []⟩ → x.op = 3 →
      Form (polAt P x.pol).perm (cellK (s.hs.getD word []) x.pol x.key).held → KOk P s who
  | mv {x : PCall} {res : Bool} {ser : Int} {word u by_ stop : Nat} {t : MThen} : s.call who = .run x res ser (.mv word by_ stop t) → word < 34 → s.ws.getD word 0 = u → u ≠ stop → KOk P s who
  | ser {x : PCall} {res : Bool} {ser : Int} {u : Nat} {f : Found} {ce : PCell} : s.call who = .run x res ser (.mvS 33 1 4611686018427387903 u (.serial f ce)) → s.ws.getD 33 0 = u → u + 1 ≤ 4611686018427387903 →
      Form (polAt P x.pol).perm ce.held → ((u + 1 : Nat) : Int) ∉ ce.held → (ce.held.length : Int) < (polAt P x.pol).perm → KOk P s who
  | cnt {x : PCall} {res : Bool} {ser : Int} {u stop : Nat} {f : Found} {ce : PCell} {rp : KRep} : s.call who = .run x res ser (.mvS 32 1 stop u (.count f ce rp)) → s.ws.getD 32 0 = u → u + 1 ≤ 4611686018427387903 → KOk P s who
  | put {x : PCall} {res : Bool} {ser : Int} {f : Found} {ce : PCell} {rp : KRep} : s.call who = .run x res ser (.put f ce rp) → f.word < 34 → s.ws.getD f.word 0 = f.v → f.v < 4611686018427387904 → f.at_ ≤ f.cells.length → (f.there = true → f.at_ < f.cells.length) → f.cells.length ≤ 5000 → ce.key.length ≤ 255 → KOk P s who
theorem kstep_of {P : List Pol} {room who : Nat} {s : KSt} {x : PCall} {res : Bool} {ser : Int} {k : Kont} {c : KC} {out : KOut} (hc : s.call who = .run x res ser k) (hr : kRun P room x (s.kc res ser) k = (c, out)) :
    (kStep P room s who).1 = (s.of c).put who (outCall x c.res c.ser out) ∧ (kStep P room s who).2.isSome = outDone out ∧ (kStep P room s who).2.getD repZ = outRep out := by
  unfold kStep
  rw [hc]
  dsimp only
  rw [hr]
  cases out <;> exact ⟨rfl, rfl, rfl⟩
theorem kput_put (s : KSt) (who : Nat) (a b : KCall) : (s.put who a).put who b = s.put who b := by
  unfold KSt.put
  dsimp only
  congr 1
  funext i
  split <;> rfl
theorem CoAt.kont {w : World} {g : CoK} {O C : Nat → Prop} {xb : Nat → Nat} {L : List AccE} {s : KSt} (h : CoAt w g O C xb L s) {who : Nat} (hw : who < 64) {x : PCall} {res : Bool} {ser : Int} {k : Kont} (hc : s.call who = .run x res ser k) :
    ∃ v, w.cell? ⟨g.gx, 3 + who, none⟩ = some v ∧ KontAt w (XO C O) (cidOf g who (xb who) x) v k := by
  obtain ⟨f, h1, -, -, h2, -⟩ := h.pend hw
  rw [hc] at h2
  exact ⟨f, h1, h2.2⟩
theorem begin_acq {P : List Pol} {room word v : Nat} {x : PCall} {res : Bool} {cells : List PCell} (hop : x.op = 2) (hne : ((cellK cells x.pol x.key).held.length : Int) ≠ (polAt P x.pol).perm) :
    beginK P room x res 0 word v cells = .on (.mv 33 1 4611686018427387903 (.serial ⟨word, v, cells, atK cells (x.pol :: x.key), hasK cells (x.pol :: x.key)⟩ (cellK cells x.pol x.key))) := by
  unfold beginK acquireK
  dsimp only
  rw [hop, if_neg (by decide), if_pos rfl, if_neg hne, if_neg (by decide)]
  rfl
theorem begin_rel {P : List Pol} {room word v : Nat} {x : PCall} {res : Bool} {ser : Int} {cells : List PCell} (hop : x.op = 3) (hm : x.n ∈ (cellK cells x.pol x.key).held) :
    beginK P room x res ser word v cells = .on (putK room res ⟨word, v, cells, atK cells (x.pol :: x.key), hasK cells (x.pol :: x.key)⟩ (relK (polAt P x.pol) (cellK cells x.pol x.key) x.n).2 (relK (polAt P x.pol) (cellK cells x.pol x.key) x.n).1) := by
  unfold beginK
  dsimp only
  rw [hop, if_neg (by decide), if_neg (by decide), if_pos rfl, if_neg (by unfold relK; rw [if_pos hm]; exact fun h => h rfl)]
  rfl
theorem begin_rel_err {P : List Pol} {room word v : Nat} {x : PCall} {res : Bool} {ser : Int} {cells : List PCell} (hop : x.op = 3) (hm : x.n ∉ (cellK cells x.pol x.key).held) :
    beginK P room x res ser word v cells = .fin (errR 11) := by
  unfold beginK
  dsimp only
  rw [hop, if_neg (by decide), if_neg (by decide), if_pos rfl, if_pos (by unfold relK; rw [if_neg hm]; exact (by decide : ¬ (11 : Nat) = 0))]
  unfold relK
  rw [if_neg hm]
/-- Step's answer -/
def CStepR (w : World) (g : CoK) (O C : Nat → Prop) (xb : Nat → Nat) (L : List AccE) (s : KSt) (who : Nat) (e : Ending) (w' : World) : Prop :=
  StepK w g O C xb (L.length + 1) (kStep g.P g.room s who).1 (.tuple #[.agg #[.bool (kStep g.P g.room s who).2.isSome, .int .i64 (((kStep g.P g.room s who).2.getD repZ).er : Int), .bool ((kStep g.P g.room s who).2.getD repZ).granted, .int .i64 ((kStep g.P g.room s who).2.getD repZ).left, .int .i64 ((kStep g.P g.room s who).2.getD repZ).wait, .int .i64 ((kStep g.P g.room s who).2.getD repZ).ser, .int .i64 ((kStep g.P g.room s who).2.getD repZ).now], .int .i64 0]) e w'
theorem cstep_mk {w : World} {g : CoK} {O C : Nat → Prop} {xb : Nat → Nat} {L : List AccE} {s s2 : KSt} {who : Nat} {x : PCall} {res : Bool} {ser : Int} {k : Kont} {c : KC} {out : KOut} (hc : s.call who = .run x res ser k) (hr : kRun g.P g.room x (s.kc res ser) k = (c, out)) (h2 : s2 = (s.of c).put who (outCall x c.res c.ser out)) {e : Ending} {w' : World}
    (h : StepK w g O C xb (L.length + 1) s2 (.tuple #[.agg #[.bool (outDone out), .int .i64 ((outRep out).er : Int), .bool (outRep out).granted, .int .i64 (outRep out).left, .int .i64 (outRep out).wait, .int .i64 (outRep out).ser, .int .i64 (outRep out).now], .int .i64 0]) e w') : CStepR w g O C xb L s who e w' := by
  obtain ⟨e1, e2, e3⟩ := kstep_of hc hr
  unfold CStepR
  rw [e1, e2, e3, ← h2]
  exact h
set_option maxRecDepth 100000 in
theorem cor_step (w : World) (g : CoK) (O C : Nat → Prop) (xb : Nat → Nat) (L : List AccE) (s : KSt) (who : Nat) (h : CoAt w g O C xb L s) (hL : L.length ≤ 100000) (hw : who < 64) (ok : KOk g.P s who) :
    Calls Tryz.prog 16 #[ptrV g.gx, .int .i64 (who : Int)] w (CStepR w g O C xb L s who) := by
  cases ok with
  | @find x res ser sum u t hc hu hu4 hs =>
    obtain ⟨v, hv, hk⟩ := h.kont hw hc
    obtain ⟨p0, p1, p2, p3, tv, rfl, -⟩ := id hk
    refine (kstep_run w g O C xb L s s who (L.length + 1) x res res ser ser _ _ _ _ _ h hc hw hv (fun _ => rfl) hc (fun u9 O' h9 k9 => k_find_even u9 g O' C xb L s who u sum x res ser t _ _ h9 hc hL hw hu hu4 hs k9)).mono fun e w' he => ?_
    refine cstep_mk (c := s.kc res ser) hc ?_ rfl he
    show (s.kc res ser, _) = _
    have e0 : (s.kc res ser).ld 0 = 2 * u := hu
    rw [e0, if_pos (by omega), show 2 * u / 2 = u by omega]
  | @acq x res sum word u hc hword hu hu0 huf hok h32 hkey hop hne =>
    obtain ⟨v, hv, hk⟩ := h.kont hw hc
    obtain ⟨p0, p1, p2, p3, p4, tv, rfl, -⟩ := id hk
    refine (kstep_run w g O C xb L s s who (L.length + 1) x res res 0 0 _ _ _ _ _ h hc hw hv (fun _ => rfl) hc (fun u9 O' h9 k9 => k_enter u9 g O' C xb L s who sum word u x res 0 _ _ _ h9 hc hL hw hword hu hu0 huf k9
      (fun v X q0 q1 n c A rs hX hx hg h0 h1 hn hcl => kbegin_acq v X g who (xb who) word u n c x res 0 A _ rs q0 q1 hX hx h0 hn hcl hok h32 hkey h1 hop rfl hne))).mono fun e w' he => ?_
    refine cstep_mk (c := s.kc res 0) hc ?_ rfl he
    show (s.kc res 0, _) = _
    have e0 : (s.kc res 0).ld word = u := hu
    rw [e0]
    unfold enteredK
    rw [if_neg (by unfold frozenN; omega)]
    show (s.kc res 0, beginK g.P g.room x res 0 word u (s.hs.getD word [])) = _
    rw [begin_acq hop hne]
  | @rel x res ser sum word u hc hword hu hu0 huf hok h32 hkey hop hF =>
    obtain ⟨v, hv, hk⟩ := h.kont hw hc
    obtain ⟨p0, p1, p2, p3, p4, tv, rfl, -⟩ := id hk
    by_cases hm : x.n ∈ (cellK (s.hs.getD word []) x.pol x.key).held
    · refine (kstep_run w g O C xb L s s who (L.length + 1) x res res ser ser _ _ _ _ _ h hc hw hv (fun _ => rfl) hc (fun u9 O' h9 k9 => k_enter u9 g O' C xb L s who sum word u x res ser _ _ _ h9 hc hL hw hword hu hu0 huf k9
        (fun v X q0 q1 n c A rs hX hx hg h0 h1 hn hcl => kbegin_rel v X g who (xb who) word u n c x res ser A _ rs q0 q1 hX hx h0 hn hcl hok h32 hkey h1 hop hg hF hm))).mono fun e w' he => ?_
      refine cstep_mk (c := s.kc res ser) hc ?_ rfl he
      show (s.kc res ser, _) = _
      have e0 : (s.kc res ser).ld word = u := hu
      rw [e0]
      unfold enteredK
      rw [if_neg (by unfold frozenN; omega)]
      show (s.kc res ser, beginK g.P g.room x res ser word u (s.hs.getD word [])) = _
      rw [begin_rel hop hm]
    · refine (kstep_run w g O C xb L s s who (L.length + 1) x res res ser ser _ _ _ _ _ h hc hw hv (fun _ => rfl) hc (fun u9 O' h9 k9 => k_enter u9 g O' C xb L s who sum word u x res ser _ _ _ h9 hc hL hw hword hu hu0 huf k9
        (fun v X q0 q1 n c A rs hX hx hg h0 h1 hn hcl => kbegin_rel_err v X g who (xb who) word u n c x res ser A _ rs q0 q1 hX hx h0 hn hcl hok h32 hkey h1 hop hg hF hm))).mono fun e w' he => ?_
      refine cstep_mk (c := s.kc res ser) hc ?_ rfl he
      show (s.kc res ser, _) = _
      have e0 : (s.kc res ser).ld word = u := hu
      rw [e0]
      unfold enteredK
      rw [if_neg (by unfold frozenN; omega)]
      show (s.kc res ser, beginK g.P g.room x res ser word u (s.hs.getD word [])) = _
      rw [begin_rel_err hop hm]
  | @mv x res ser word u by_ stop t hc hword hu hne =>
    obtain ⟨v, hv, hk⟩ := h.kont hw hc
    obtain ⟨p0, p1, p2, p3, p4, p5, sv, tv, rfl, -⟩ := id hk
    refine (kstep_run w g O C xb L s s who (L.length + 1) x res res ser ser _ _ _ _ _ h hc hw hv (fun _ => rfl) hc (fun u9 O' h9 k9 => k_mv u9 g O' C xb L s who u word by_ stop x res ser t _ _ h9 hc hL hw hword hu hne k9)).mono fun e w' he => ?_
    refine cstep_mk (c := s.kc res ser) hc ?_ rfl he
    show (s.kc res ser, _) = _
    have e0 : (s.kc res ser).ld word = u := hu
    rw [e0, if_neg hne]
  | @ser x res ser u f ce hc hu hu2 hF hm hlt =>
    obtain ⟨v, hv, hk⟩ := h.kont hw hc
    obtain ⟨p0, p1, p2, p3, p4, p5, p6, sv, tv, rfl, -⟩ := id hk
    refine (kstep_run w g O C xb L s _ who (L.length + 1) x res res ser _ _ _ _ _ _ h hc hw hv (fun _ => rfl) (kput_self _ _ _) (fun u9 O' h9 k9 => k_mvS_serial u9 g O' C xb L s who u x res ser f ce _ _ h9 hc hL hw hu hu2 k9 hF hm hlt)).mono fun e w' he => ?_
    have e0 : (s.kc res ser).ld 33 = u := hu
    have e1 : (u + 1) % 18446744073709551616 = u + 1 := by omega
    refine cstep_mk (c := { (s.kc res ser).sw 33 (u + 1) [] with ser := ((u + 1 : Nat) : Int) }) hc ?_ (kput_put _ _ _ _) he
    show (if (s.kc res ser).ld 33 = u then _ else _) = _
    rw [if_pos e0]
    dsimp only
    rw [e1]
    rfl
  | @cnt x res ser u stop f ce rp hc hu hu2 =>
    obtain ⟨v, hv, hk⟩ := h.kont hw hc
    obtain ⟨p0, p1, p2, p3, p4, p5, p6, sv, tv, rfl, -⟩ := id hk
    refine (kstep_run w g O C xb L s _ who (L.length + 1) x res true ser ser _ _ _ _ _ h hc hw hv (fun _ => rfl) (kput_self _ _ _) (fun u9 O' h9 k9 => k_mvS_count u9 g O' C xb L s who u x res ser f ce rp stop _ _ h9 hc hL hw hu hu2 k9)).mono fun e w' he => ?_
    have e0 : (s.kc res ser).ld 32 = u := hu
    have e1 : (u + 1) % 18446744073709551616 = u + 1 := by omega
    refine cstep_mk (c := { (s.kc res ser).sw 32 (u + 1) [] with res := true }) hc ?_ (kput_put _ _ _ _) he
    show (if (s.kc res ser).ld 32 = u then _ else _) = _
    rw [if_pos e0]
    dsimp only
    rw [e1]
  | @put x res ser f ce rp hc hword hu hv' hat hth hcl hkl =>
    obtain ⟨v, hv, hk⟩ := h.kont hw hc
    obtain ⟨p0, p1, p2, p3, p4, p5, rfl, -⟩ := id hk
    refine (kstep_run w g O C xb L s { s with ws := s.ws.set f.word (f.v + 1), hs := s.hs.set f.word (withK f.cells f.at_ f.there ce) } who (L.length + 1) x res res ser ser _ _ _ _ _ h hc hw hv (fun _ => rfl) hc (fun u9 O' h9 k9 => k_put_hit u9 g O' C xb L s who x res ser f ce rp _ _ h9 hc hL hw hword hu hv' k9 hat hth hcl hkl)).mono fun e w' he => ?_
    refine cstep_mk (c := (s.kc res ser).sw f.word (f.v + 1) (withK f.cells f.at_ f.there ce)) hc ?_ rfl he
    show (if (s.kc res ser).ld f.word = f.v then _ else _) = _
    have e0 : (s.kc res ser).ld f.word = f.v := hu
    rw [if_pos e0]
    rfl
end

section
open Go.RowKit

def xbSet (xb : Nat → Nat) (who q : Nat) : Nat → Nat := fun i => if i = who then q else xb i
theorem xbSet_self (xb : Nat → Nat) (who q : Nat) : xbSet xb who q who = q := if_pos rfl
theorem xbSet_other (xb : Nat → Nat) {who i : Nat} (q : Nat) (h : i ≠ who) : xbSet xb who q i = xb i := if_neg h
theorem CoAt.start {w w2 : World} {g : CoK} {O C : Nat → Prop} {xb : Nat → Nat} {L : List AccE} {s : KSt} (h : CoAt w g O C xb L s) {who q : Nat} (hw : who < 64) (_hi : s.call who = .idle) (x : Ext w w2) (hq : w.heap.size ≤ q) (hq2 : q < w2.heap.size) {xc : PCall} {k : Kont} {f : Value}
    (hx : XAt w2 (XO (fun i => C i ∨ i = q) O) g.gx who xc false 0 q) (hk : KontAt w2 (XO (fun i => C i ∨ i = q) O) (cidOf g who q xc) f k) :
    CoMov w g O C (xbSet xb who q) L (s.put who (.run xc false 0 k)) (fun i => C i ∨ i = q) (w2.setCell ⟨g.gx, 3 + who, none⟩ f) := by
  obtain ⟨Fm, fs, hv, tx, tl, tb, th, h⟩ := h
  have hl := h.fsl
  have gs : GB w2 (w2.setCell ⟨g.gx, 3 + who, none⟩ f) (· = g.gx) := (GB.refl w2 (· = g.gx)).set g.gx _ _ (.inl rfl)
  have gw : GB w (w2.setCell ⟨g.gx, 3 + who, none⟩ f) (· = g.gx) := GB.back x gs
  have hgx := h.lt _ h.cx
  have hgh := h.lt _ h.ch
  have kp : Kp w (w2.setCell ⟨g.gx, 3 + who, none⟩ f) (XO C O) (XO (fun i => C i ∨ i = q) O) := Kp.of gw (fun j _ e => .inl (e ▸ h.cx)) (fun i hi e => e.imp (fun e => e.resolve_right (by omega)) id)
  have kp2 : Kp w2 (w2.setCell ⟨g.gx, 3 + who, none⟩ f) (XO (fun i => C i ∨ i = q) O) (XO (fun i => C i ∨ i = q) O) := Kp.of gs (fun j _ e => .inl (.inl (e ▸ h.cx))) (fun _ _ e => e)
  have ngl : g.gl ≠ g.gx := fun e => h.nl (.inl (e ▸ h.cx))
  have ngb : g.gb ≠ g.gx := fun e => h.nb (.inl (e ▸ h.cx))
  have hgl := blk_lt h.bl
  have hgb := blk_lt h.bb
  have rr : ∀ i, i ≠ who → isRun ((s.put who (.run xc false 0 k)).call i) = true → isRun (s.call i) = true := fun i e hr => by rw [kput_other s _ e] at hr; exact hr
  refine ⟨⟨Fm, fs.set who f, hv, tx, tl, tb, th, ⟨h.mach.gb gw (fun i hi e => h.mx (e ▸ hi)), h.wsl, h.hsl, ?_, by rw [List.length_set]; exact h.fsl, gw.blk h.bl ngl, gw.blk h.bb ngb, gw.blk h.bh (fun e => h.xh e.symm), h.hvl,
    fun i l hl => by obtain ⟨A, c, rs, e1, e2⟩ := h.holds i l hl; exact ⟨A, c, rs, e1, e2.kp kp⟩, kp.rd h.prd h.pfz, h.pfz.kp kp, fun i y hy => ?_, h.mx, h.mh, h.xh, fun e => h.nl (kp.keep _ hgl e), fun e => h.nb (kp.keep _ hgb e), .inl h.cx, .inl h.ch, fun i hi => .inl (h.cm i hi), fun i hi hr => ?_, fun i j hi hj hr hr2 e => ?_, fun i hi => ?_, fun i hi e => ?_, fun j hj => Nat.lt_of_lt_of_le (h.ol j hj) gw.size⟩⟩, gw.more (fun i _ (e : i = g.gx) => by rw [e]; exact h.cx), fun i hi => hi.imp id (fun (e : i = q) => by rw [e]; exact hq)⟩
  · refine (blk_set (blk_ext h.bx x) _ _).trans ?_
    rw [List.setIfInBounds_toArray, Nat.add_comm, List.set_cons_succ, List.set_cons_succ, List.set_cons_succ]
  · by_cases e : i = who
    · subst e
      rw [List.getElem?_set_self (by omega)] at hy
      injection hy with hy
      subst hy
      rw [kput_self, xbSet_self]
      exact ⟨hx.kp kp2 (gs.block q hq2 (by omega)), hk.kp kp2⟩
    · rw [List.getElem?_set_ne (fun h => e h.symm)] at hy
      rw [kput_other s _ e, xbSet_other xb q e]
      exact (h.pend i y hy).kp kp (fun hr => gw.block _ (h.lt _ (h.xs i (fs_lt h hy) hr).1) (h.xs i (fs_lt h hy) hr).2.2.1)
  · by_cases e : i = who
    · subst e
      rw [xbSet_self]
      exact ⟨.inr rfl, fun e => by have := h.lt _ (h.cm _ e); omega, by omega, by omega⟩
    · rw [xbSet_other xb q e]
      obtain ⟨a1, a2, a3, a4⟩ := h.xs i hi (rr i e hr)
      exact ⟨.inl a1, a2, a3, a4⟩
  · by_cases e1 : i = who
    · by_cases e2 : j = who
      · rw [e1, e2]
      · rw [e1, xbSet_self, xbSet_other xb q e2] at e
        have := h.lt _ (h.xs j hj (rr j e2 hr2)).1
        omega
    · by_cases e2 : j = who
      · rw [e2, xbSet_self, xbSet_other xb q e1] at e
        have := h.lt _ (h.xs i hi (rr i e1 hr)).1
        omega
      · rw [xbSet_other xb q e1, xbSet_other xb q e2] at e
        exact h.inj i j hi hj (rr i e1 hr) (rr j e2 hr2) e
  · have := x.size
    have hz : (w2.setCell ⟨g.gx, 3 + who, none⟩ f).heap.size = w2.heap.size := by simp
    rw [hz]
    rcases hi with hi | hi
    · have := h.lt i hi; omega
    · omega
  · rcases hi with hi | hi
    · exact h.co i hi e
    · have := h.ol i e; omega
end

section
open Go.RowKit

/-- a number out of bytes, the highest first -/
def numB (xs : List Nat) : Nat := xs.foldl (fun n x => n * 256 + x) 0
theorem numB_snoc (xs : List Nat) (x : Nat) : numB (xs ++ [x]) = numB xs * 256 + x := by rw [numB, List.foldl_append, List.foldl_cons, List.foldl_nil, numB]
theorem numB_nil : numB [] = 0 := by rw [numB, List.foldl_nil]
theorem numB_go (xs : List Nat) : ∀ a, (∀ x ∈ xs, x < 256) → xs.foldl (fun n x => n * 256 + x) a < (a + 1) * 256 ^ xs.length := by
  induction xs with
  | nil => intro a _; rw [List.foldl_nil, List.length_nil, Nat.pow_zero]; omega
  | cons x xs ih =>
    intro a h
    have h1 := ih (a * 256 + x) (fun y hy => h y (List.mem_cons_of_mem _ hy))
    have h2 := h x List.mem_cons_self
    rw [List.foldl_cons, List.length_cons, Nat.pow_succ]
    have h3 : (a * 256 + x + 1) * 256 ^ xs.length ≤ (a + 1) * 256 * 256 ^ xs.length := Nat.mul_le_mul_right _ (by omega)
    rw [Nat.mul_comm (256 ^ xs.length) 256, ← Nat.mul_assoc]
    omega
theorem numB_lt (xs : List Nat) (h : ∀ x ∈ xs, x < 256) : numB xs < 256 ^ xs.length := by
  have := numB_go xs 0 h
  rw [numB]
  omega

/-- what stands at a stream's head: 0: not whole; 1: a wrong length; 2: a frame -/
def headF (ws : List Nat) : Nat :=
  if ws.length < 4 then 0 else if numB (ws.take 4) = 0 ∨ 4096 < numB (ws.take 4) then 1 else if ws.length - 4 < numB (ws.take 4) then 0 else 2
def payF (ws : List Nat) : List Nat := (ws.drop 4).take (numB (ws.take 4))
def restF (ws : List Nat) : List Nat := (ws.drop 4).drop (numB (ws.take 4))
theorem restF_lt {ws : List Nat} (h : headF ws = 2) : (restF ws).length < ws.length ∧ (payF ws).length = numB (ws.take 4) ∧ 1 ≤ numB (ws.take 4) ∧ numB (ws.take 4) ≤ 4096 ∧ 4 ≤ ws.length ∧ 4 + numB (ws.take 4) ≤ ws.length := by
  unfold headF at h
  by_cases h1 : ws.length < 4
  · rw [if_pos h1] at h; omega
  · rw [if_neg h1] at h
    by_cases h2 : numB (ws.take 4) = 0 ∨ 4096 < numB (ws.take 4)
    · rw [if_pos h2] at h; omega
    · rw [if_neg h2] at h
      by_cases h3 : ws.length - 4 < numB (ws.take 4)
      · rw [if_pos h3] at h; omega
      · simp only [restF, payF, List.length_drop, List.length_take]
        omega

/-- the payloads of a stream's whole frames; what is left; whether a wrong length stands there -/
def parseN : Nat → List Nat → List (List Nat) × List Nat × Bool
  | 0, ws => ([], ws, false)
  | f + 1, ws => if headF ws = 0 then ([], ws, false) else if headF ws = 1 then ([], ws, true) else
    (payF ws :: (parseN f (restF ws)).1, (parseN f (restF ws)).2.1, (parseN f (restF ws)).2.2)
theorem parseN_more : ∀ (f g : Nat) (ws : List Nat), ws.length < f → ws.length < g → parseN f ws = parseN g ws
  | 0, _, _, h, _ => by omega
  | _ + 1, 0, _, _, h => by omega
  | f + 1, g + 1, ws, h1, h2 => by
    unfold parseN
    by_cases e0 : headF ws = 0
    · rw [if_pos e0, if_pos e0]
    · by_cases e1 : headF ws = 1
      · rw [if_neg e0, if_pos e1, if_neg e0, if_pos e1]
      · rw [if_neg e0, if_neg e1, if_neg e0, if_neg e1]
        have e2 : headF ws = 2 := by
          unfold headF at e0 e1 ⊢
          split
          · rename_i h; rw [if_pos h] at e0; omega
          · rename_i h
            rw [if_neg h] at e0 e1
            split
            · rename_i h'; rw [if_pos h'] at e1; omega
            · rename_i h'
              rw [if_neg h'] at e0
              split
              · rename_i h''; rw [if_pos h''] at e0; omega
              · rfl
        have := (restF_lt e2).1
        rw [parseN_more f g (restF ws) (by omega) (by omega)]
def parse (ws : List Nat) : List (List Nat) × List Nat × Bool := parseN (ws.length + 1) ws
theorem headF_cases (ws : List Nat) : headF ws = 0 ∨ headF ws = 1 ∨ headF ws = 2 := by
  unfold headF
  split
  · exact .inl rfl
  · split
    · exact .inr (.inl rfl)
    · split
      · exact .inl rfl
      · exact .inr (.inr rfl)
theorem parse_wait {ws : List Nat} (h : headF ws = 0) : parse ws = ([], ws, false) := by
  unfold parse parseN; rw [if_pos h]
theorem parse_bad {ws : List Nat} (h : headF ws = 1) : parse ws = ([], ws, true) := by
  unfold parse parseN; rw [if_neg (by omega), if_pos h]
theorem parse_frame {ws : List Nat} (h : headF ws = 2) : parse ws = (payF ws :: (parse (restF ws)).1, (parse (restF ws)).2.1, (parse (restF ws)).2.2) := by
  have hl := (restF_lt h).1
  unfold parse
  conv => lhs; unfold parseN
  rw [if_neg (by omega), if_neg (by omega), parseN_more ws.length ((restF ws).length + 1) (restF ws) (by omega) (by omega)]
end

section
open Go.RowKit

/-- k bytes of a number, the highest first -/
def wordB (v : Nat) : Nat → List Nat
  | 0 => []
  | k + 1 => v / 256 ^ k % 256 :: wordB v k
theorem wordB_len (v k : Nat) : (wordB v k).length = k := by induction k with
  | zero => rfl
  | succ k ih => rw [wordB, List.length_cons, ih]
theorem wordB_lt (v k : Nat) : ∀ x ∈ wordB v k, x < 256 := by
  induction k with
  | zero => simp [wordB]
  | succ k ih =>
    intro x hx
    rw [wordB] at hx
    rcases List.mem_cons.1 hx with rfl | hx
    · exact Nat.mod_lt _ (by omega)
    · exact ih x hx
theorem numB_from (xs : List Nat) : ∀ a, xs.foldl (fun n x => n * 256 + x) a = a * 256 ^ xs.length + numB xs := by
  induction xs with
  | nil => intro a; simp [numB]
  | cons x xs ih =>
    intro a
    have e : numB (x :: xs) = (0 * 256 + x) * 256 ^ xs.length + numB xs := by
      show List.foldl _ (0 * 256 + x) xs = _
      exact ih _
    rw [List.foldl_cons, ih, e, List.length_cons, Nat.pow_succ, Nat.zero_mul, Nat.zero_add, Nat.add_mul, Nat.mul_assoc, Nat.mul_comm 256, Nat.add_assoc]
theorem numB_cons (x : Nat) (xs : List Nat) : numB (x :: xs) = x * 256 ^ xs.length + numB xs := by
  have e := numB_from xs (0 * 256 + x)
  have e' : numB (x :: xs) = (0 * 256 + x) * 256 ^ xs.length + numB xs := e
  rw [e', Nat.zero_mul, Nat.zero_add]
theorem numB_wordB (v k : Nat) : numB (wordB v k) = v % 256 ^ k := by
  induction k with
  | zero => simp [wordB, numB, Nat.mod_one]
  | succ k ih =>
    rw [wordB, numB_cons, wordB_len, ih, Nat.pow_succ, Nat.mul_comm (256 ^ k) 256, Nat.mul_comm 256 (256 ^ k), Nat.mod_mul, Nat.mul_comm, Nat.add_comm]
theorem wordB_numB (xs : List Nat) (h : ∀ x ∈ xs, x < 256) (m : Nat) : wordB (m * 256 ^ xs.length + numB xs) xs.length = xs := by
  induction xs generalizing m with
  | nil => rfl
  | cons x xs ih =>
    have hx := h x List.mem_cons_self
    have hl := numB_lt xs (fun y hy => h y (List.mem_cons_of_mem _ hy))
    have e : m * 256 ^ (xs.length + 1) + numB (x :: xs) = (m * 256 + x) * 256 ^ xs.length + numB xs := by
      rw [numB_cons, Nat.pow_succ, Nat.add_mul, Nat.mul_comm (256 ^ xs.length) 256, Nat.mul_assoc, Nat.add_assoc]
    rw [List.length_cons, wordB, e, ih (fun y hy => h y (List.mem_cons_of_mem _ hy)), Nat.mul_comm _ (256 ^ xs.length), Nat.mul_add_div (Nat.pos_of_ne_zero (by simp)), Nat.div_eq_of_lt hl]
    congr 1
    omega

theorem made_row (w : World) (n : Nat) (hn : n ≤ maxLen) : (w.alloc (.cells (madeCells #[.int .u8 0] n) 5)).ownsRow w.heap.size 5 1 (.slice (some ⟨w.heap.size, 0, none⟩) n n) n (vals .u8 (List.replicate n 0)) := by
  have e : (.cells (madeCells #[.int .u8 0] n) 5 : Obj) = .cells (vals .u8 (List.replicate n 0)).toArray 5 := by
    congr 1
    apply Array.ext'
    rw [toList_madeCells_one]
    simp [vals]
  rw [e]
  exact own_made w _ 5 1 n (by simp [vals]) hn (Nat.le_refl _)
theorem set_word (v n j : Nat) (h : j < n) : (List.replicate (n - j) 0 ++ wordB v j).set (n - 1 - j) (v / 256 ^ j % 256) = List.replicate (n - (j + 1)) 0 ++ wordB v (j + 1) := by
  have e : n - j = (n - (j + 1)) + 1 := by omega
  rw [List.set_append_left _ _ (by simp; omega), e, List.replicate_succ', List.set_append_right _ _ (by simp; omega)]
  rw [show n - 1 - j - (List.replicate (n - (j + 1)) 0).length = 0 by simp; omega]
  simp [wordB]

set_option maxHeartbeats 1000000 in
theorem docWord_any (w : World) (v n : Nat) (hv : v < 18446744073709551616) (hn : n ≤ 1000) :
    Calls Tryz.prog 161 #[.int .u64 (v : Int), .int .i64 (n : Int)] w (RetB (wordB v n) w) := by
  have hmk := Lib.hid (run_make_row' (P := Tryz.prog) 32 5 (.int .u8 0) 1 Tryz.underlying32 info_u8 rfl .i64 .i64 n (by omega) (by omega))
  have hrow := Lib.hid (made_row w n (by unfold maxLen; omega))
  have hmk' := hmk.out
  go_enter Tryz.func161, Tryz.ntmps161
  go_wp2_with fail
  clear hmk'
  go_loopg [0, 6] n (fun g v0 v6 wr => ∃ j : Nat, j ≤ n ∧ g = n - j ∧ v0 = .int .u64 ((v / 256 ^ j : Nat) : Int) ∧ v6 = .int .i64 ((n : Int) - 1 - (j : Int)) ∧ Ext w wr ∧
    wr.ownsRow w.heap.size 5 1 (.slice (some ⟨w.heap.size, 0, none⟩) n n) n (vals .u8 (List.replicate (n - j) 0 ++ wordB v j)))
  case atStart =>
    exact ⟨0, Nat.zero_le _, rfl, by simp, by go_num, (Ext.refl w).alloc _, by simpa [wordB] using hrow.out⟩
  case round =>
    obtain ⟨j, hj, rfl, rfl, rfl, hx, ho⟩ := hrel
    have Hx := Lib.hid hx; clear hx
    by_cases hlt : j < n
    · have hq : v / 256 ^ j < 18446744073709551616 := Nat.lt_of_le_of_lt (Nat.div_le_self _ _) hv
      have hfz := ho.frozenAt (n - 1 - j)
      have hst := Lib.hid (ho.stored (n - 1 - j) (.int .u8 ((v / 256 ^ j % 256 : Nat) : Int)))
      have hc0 := ho.cellAt (n - 1 - j) (by omega)
      have hs := Lib.hid (set_word v n j hlt)
      have hy : (List.replicate (n - j) 0 ++ wordB v j)[n - 1 - j]? = some 0 := by
        rw [List.getElem?_append_left (by simp; omega), List.getElem?_replicate, if_pos (by omega)]
      rw [vals_get hy] at hc0
      have hq2 : v / 256 ^ (j + 1) = v / 256 ^ j / 256 := by rw [Nat.pow_succ, Nat.div_div_eq_div_mul]
      have Hq2 := Lib.hid hq2
      clear hy hq2 ho
      generalize v / 256 ^ j = q at *
      go_wp2_with fail
      go_roundg (n - (j + 1))
      case measure => omega
      case rel =>
        refine ⟨j + 1, hlt, rfl, ?_, by go_num, Hx.out.setCell (p := ⟨w.heap.size, n - 1 - j, none⟩) (Nat.le_refl _) _, ?_⟩
        · rw [Hq2.out]; rfl
        · have := hst.out.1
          rw [← vals_set, hs.out] at this
          exact this
    · obtain rfl : j = n := by omega
      have Ho := Lib.hid ho; clear ho
      go_wp2_with fail
      go_ret
      have ho := Ho.out
      rw [Nat.sub_self, List.replicate_zero, List.nil_append] at ho
      exact retB_of (wordB_len v j) ho Hx.out

set_option maxHeartbeats 1000000 in
theorem docNumber_any (w : World) (A : Option Addr) (n c : Nat) (xs : List Nat) (hl : xs.length = n) (hn : n ≤ 8) (hb : ∀ x ∈ xs, x < 256) (hr : Rd w A (vals .u8 xs)) :
    Calls Tryz.prog 110 #[.slice A n c] w fun e w' => e = .returned (.int .u64 (numB xs : Int)) ∧ w = w' := by
  have Hl := Lib.hid hl; have Hb := Lib.hid hb; have Hr := Lib.hid hr; clear hl hb hr
  go_enter Tryz.func110, Tryz.ntmps110
  go_wp2_with fail
  go_loop [3, 7] (fun x i => ∃ k : Nat, k ≤ n ∧ i = .int .i64 k ∧ x = .int .u64 ((numB (xs.take k) : Nat) : Int)) (fun _ i => n - (intOf i).toNat)
  case atStart => exact ⟨0, Nat.zero_le _, rfl, by rw [List.take_zero, numB_nil]; rfl⟩
  case round =>
    obtain ⟨k, hk, rfl, rfl⟩ := hrel
    by_cases hlt : k < n
    · obtain ⟨x, hx⟩ := get_of_lt (xs := xs) (j := k) (by rw [Hl.out]; exact hlt)
      have hx256 : x < 256 := Hb.out x (List.mem_of_getElem? hx)
      obtain ⟨b, off, hA, hc⟩ := Hr.out.at_ hx
      subst hA
      have hnl := numB_lt (xs.take k) (fun y hy => Hb.out y (List.mem_of_mem_take hy))
      have hle : numB (xs.take k) < 72057594037927936 := by
        refine Nat.lt_of_lt_of_le hnl ?_
        rw [show (72057594037927936 : Nat) = 256 ^ 7 by rfl]
        exact Nat.pow_le_pow_right (by omega) (by rw [List.length_take, Hl.out]; omega)
      have Hx := Lib.hid hx; clear hx hnl
      go_wp2
      go_round
      case rel => exact ⟨k + 1, by omega, by go_num, by rw [take_succ_of Hx.out, numB_snoc]; go_num⟩
      case measure => simp [intOf]; omega
    · obtain rfl : k = n := by omega
      have e : xs.take k = xs := List.take_of_length_le (by rw [Hl.out]; omega)
      rw [e]
      clear e
      go_wp2
      go_ret
      exact ⟨rfl, rfl⟩

theorem or_byte64 (a x : Nat) (ha : a < 72057594037927936) (hx : x < 256) : bits .or .u64 ((a : Int) * 256) (x : Int) = ((a * 256 + x : Nat) : Int) := by
  have e : ((a : Int) * 256) = ((a * 256 : Nat) : Int) := by omega
  rw [e, Go.u64_or_nat _ _ (by omega) (by omega)]
  congr 1
  have h := Nat.two_pow_add_eq_or_of_lt (i := 8) (b := x) (by omega) a
  simp only [Nat.reducePow] at h
  rw [Nat.mul_comm a 256]
  exact h.symm
set_option maxHeartbeats 1000000 in
theorem tokNumber_any (w : World) (A : Option Addr) (n c : Nat) (xs : List Nat) (hl : xs.length = n) (hn : n ≤ 8) (hb : ∀ x ∈ xs, x < 256) (hr : Rd w A (vals .u8 xs)) :
    Calls Tryz.prog 75 #[.slice A n c] w fun e w' => e = .returned (.int .u64 (numB xs : Int)) ∧ w = w' := by
  have Hl := Lib.hid hl; have Hb := Lib.hid hb; have Hr := Lib.hid hr; clear hl hb hr
  go_enter Tryz.func75, Tryz.ntmps75
  go_wp2_with fail
  go_loop [3, 8] (fun x i => ∃ k : Nat, k ≤ n ∧ i = .int .i64 k ∧ x = .int .u64 ((numB (xs.take k) : Nat) : Int)) (fun _ i => n - (intOf i).toNat)
  case atStart => exact ⟨0, Nat.zero_le _, rfl, by rw [List.take_zero, numB_nil]; rfl⟩
  case round =>
    obtain ⟨k, hk, rfl, rfl⟩ := hrel
    by_cases hlt : k < n
    · obtain ⟨x, hx⟩ := get_of_lt (xs := xs) (j := k) (by rw [Hl.out]; exact hlt)
      have hx256 : x < 256 := Hb.out x (List.mem_of_getElem? hx)
      obtain ⟨b, off, hA, hc⟩ := Hr.out.at_ hx
      subst hA
      have hnl := numB_lt (xs.take k) (fun y hy => Hb.out y (List.mem_of_mem_take hy))
      have hle : numB (xs.take k) < 72057594037927936 := by
        refine Nat.lt_of_lt_of_le hnl ?_
        rw [show (72057594037927936 : Nat) = 256 ^ 7 by rfl]
        exact Nat.pow_le_pow_right (by omega) (by rw [List.length_take, Hl.out]; omega)
      have Hx := Lib.hid hx; clear hx hnl
      go_wp2
      go_round
      case rel => exact ⟨k + 1, by omega, by go_num, by rw [take_succ_of Hx.out, numB_snoc, or_byte64 _ _ hle hx256]⟩
      case measure => simp [intOf]; omega
    · obtain rfl : k = n := by omega
      have e : xs.take k = xs := List.take_of_length_le (by rw [Hl.out]; omega)
      rw [e]
      clear e
      go_wp2
      go_ret
      exact ⟨rfl, rfl⟩
end

section
open Go.RowKit

theorem wordB_drop (v n : Nat) : ∀ j, j ≤ n → (wordB v n).drop j = wordB v (n - j) := by
  induction n with
  | zero => intro j hj; obtain rfl : j = 0 := by omega
            rfl
  | succ n ih =>
    intro j hj
    cases j with
    | zero => rfl
    | succ j => rw [wordB, List.drop_succ_cons, ih j (by omega)]; congr 1; omega
theorem wordB_get (v n j : Nat) (h : j < n) : (wordB v n)[j]? = some (v / 256 ^ (n - 1 - j) % 256) := by
  have e := wordB_drop v n j (by omega)
  have e2 : n - j = (n - 1 - j) + 1 := by omega
  rw [e2, wordB] at e
  rw [← List.head?_drop, e]
  rfl

theorem rd_one (w : World) (X : Int) (y : Nat) (h : X = (y : Int)) : Rd (w.alloc (.cells #[.int .u8 X] 5)) (some ⟨w.heap.size, 0, none⟩) (vals .u8 [y]) := by
  subst h
  exact rd_new w [.int .u8 (y : Int)] _
theorem shr_byte (v i : Nat) : ((v : Int) / 2 ^ (8 * i) % 256) = ((v / 256 ^ i % 256 : Nat) : Int) := by
  rw [show (256 : Nat) ^ i = 2 ^ (8 * i) from (Nat.pow_mul 2 8 i).symm]
  simp only [Int.natCast_emod, Int.natCast_ediv, Int.natCast_pow]
  rfl
set_option maxHeartbeats 2000000 in
theorem tokWord_any (w w0 : World) (base : Nat) (A : Option Addr) (m c : Nat) (xs : List Nat) (v n : Nat) (hl : xs.length = m) (ho : w.ownsRow base 5 1 (.slice A m c) m (vals .u8 xs)) (hx : Ext w0 w) (hbase : w0.heap.size ≤ base) (hbw : base ≤ w.heap.size)
    (_hv : v < 18446744073709551616) (hn : n ≤ 8) (hm : m ≤ 1000000) :
    Calls Tryz.prog 73 #[.slice A m c, .int .u64 (v : Int), .int .i64 (n : Int)] w fun e w' => ∃ A' c', e = .returned (.slice A' (m + n) c') ∧ w'.ownsRow base 5 1 (.slice A' (m + n) c') (m + n) (vals .u8 (xs ++ wordB v n)) ∧ Ext w0 w' ∧ w.heap.size ≤ w'.heap.size := by
  have Ho := Lib.hid ho; have Hl := Lib.hid hl; clear ho hl
  go_enter Tryz.func73, Tryz.ntmps73
  go_wp2_with fail
  go_loopg [0, 7] n (fun g v0 v7 wr => ∃ (j : Nat) (A' : Option Addr) (c' : Nat), j ≤ n ∧ g = n - j ∧ v0 = .slice A' (m + j) c' ∧ v7 = .int .i64 ((n : Int) - 1 - (j : Int)) ∧ Ext w0 wr ∧ w.heap.size ≤ wr.heap.size ∧
    wr.ownsRow base 5 1 (.slice A' (m + j) c') (m + j) (vals .u8 (xs ++ (wordB v n).take j)))
  case atStart =>
    exact ⟨0, A, c, Nat.zero_le _, rfl, rfl, by go_num, hx, Nat.le_refl _, by simpa using Ho.out⟩
  case round =>
    obtain ⟨j, A', c', hj, rfl, rfl, rfl, hxr, hsz, hor⟩ := hrel
    have Hxr := Lib.hid hxr; clear hxr
    by_cases hlt : j < n
    · have hg := Lib.hid (wordB_get v n j hlt)
      obtain ⟨i, hi⟩ : ∃ i, i = n - 1 - j := ⟨_, rfl⟩
      have hi7 : i ≤ 7 := by omega
      have hji : ((n : Int) - 1 - (j : Int)) = (i : Int) := by omega
      rw [hji]
      rw [← hi] at hg
      have Hi := Lib.hid hi; clear hi hji
      have hs1 : wr.heap.size ≥ base := by omega
      have hib := Lib.hid (shr_byte v i)
      go_wp2_with (first | (at_builtin; refine app_u8 _ rfl (.tmp 14) (.tmp 20) rfl base rfl (hor.alloc _) rfl (m := 1) (news := [v / 256 ^ i % 256]) rfl (rd_one _ _ _ hib.out) (by omega) (by simp; omega) ?_; intro A1 c1 w1 hown1 hgrow1 _) | fail)
      go_roundg (n - (j + 1))
      case measure => omega
      case rel =>
        refine ⟨j + 1, A1, c1, hlt, rfl, rfl, by have := Hi.out; go_num, (Hxr.out.alloc _).grown hgrow1 (fun k hk => Nat.le_trans hbase (own_ge hor k hk)), by have := hgrow1.size; simp at this; omega, ?_⟩
        rw [take_succ_of hg.out, ← List.append_assoc]
        exact hown1
    · obtain rfl : j = n := by omega
      have e : (wordB v j).take j = wordB v j := List.take_of_length_le (by rw [wordB_len]; omega)
      rw [e] at hor
      have Hor := Lib.hid hor
      clear hor e
      go_wp2_with fail
      go_ret
      exact ⟨A', c', rfl, Hor.out, Hxr.out, hsz⟩
end

section
open Go.RowKit

theorem Rd.drew {w : World} {A : Option Addr} {vs : List Value} (h : Rd w A vs) : Rd w.drew A vs := h
theorem step_app_u8 {ops : Array Oper} {o : Oper} {a : Act} {K : Act → World → Prop} {Q : Exit → Act → World → Prop} {E : Prop} (w : World) (hgd : o.guard = none) (s x : Operand)
    (ho : o.op = .call { callee := .builtin .append, args := #[s, x], argTypes := #[32, 32] })
    (base : Nat) {B : Option Addr} {n cb : Nat} {xs : List Nat} (hs : a.eval s = .slice B n cb) (hown : w.ownsRow base 5 1 (.slice B n cb) n (vals .u8 xs))
    {A : Option Addr} {m c : Nat} {news : List Nat} (hx : a.eval x = .slice A m c) (hl : news.length = m) (hr : Rd w A (vals .u8 news)) (hb : n + m ≤ 140737488355328) (hbase : base ≤ w.heap.size)
    (h : ∀ B' cb' w', w'.ownsRow base 5 1 (.slice B' (n + m) cb') (n + m) (vals .u8 (xs ++ news)) → w.grownBy w' (Value.slice B n cb).ownBlock →
      ((Value.slice B' (n + m) cb').ownBlock = (Value.slice B n cb).ownBlock ∨ (Value.slice B' (n + m) cb').ownBlock = some w.heap.size) → K (a.put o.dst (.slice B' (n + m) cb')) w') :
    if Region.wanted o (yielded ops a.tmps) = true then Oper.wp Tryz.prog o a w K Q else E := by
  have hw : Region.wanted o (yielded ops a.tmps) = true := by simp [Region.wanted, hgd]
  rw [if_pos hw]
  obtain ⟨i0, hi, hz0, hz1, hz2⟩ := info_parts info_u8
  exact wp_append_rd w s x 32 ho base 5 Tryz.underlying32 hi hz0 hz1 hz2 rfl (by decide) hs hown hx (by rw [vals_len, hl, Nat.mul_one]) hr (vals_one _ _) (by unfold maxLen; omega) (by omega) hbase
    fun B' cb' w' h2 h3 h4 => h B' cb' w' (by rw [vals_append]; exact h2) h3 h4
end

section
open Go.RowKit

/-- a token's bytes ahead of the sum; all of them -/
def bodyT (p : Nat) (xs : List Nat) (s : Nat) : List Nat := 83 :: 71 :: p :: xs.length :: (xs ++ wordB s 8)
def sumT (b : List Nat) : Nat := upd 14695981039346656037 b % 4294967296
def tokB (p : Nat) (xs : List Nat) (s : Nat) : List Nat := bodyT p xs s ++ wordB (sumT (bodyT p xs s)) 4
theorem bodyT_len (p : Nat) (xs : List Nat) (s : Nat) : (bodyT p xs s).length = xs.length + 12 := by
  simp only [bodyT, List.length_cons, List.length_append, wordB_len]
theorem tokB_len (p : Nat) (xs : List Nat) (s : Nat) : (tokB p xs s).length = xs.length + 16 := by
  rw [tokB, List.length_append, bodyT_len, wordB_len]
/-- a token's value -/
abbrev tokV (p : Int) (A : Option Addr) (n c : Nat) (s : Int) : Value := .agg #[.int .i64 p, .slice A n c, .int .i64 s]

theorem tokEncode_arg (w : World) (p s : Int) (A : Option Addr) (n c : Nat) (h : s < 1 ∨ 4611686018427387903 < s ∨ p < 0 ∨ 32 ≤ p) :
    Calls Tryz.prog 32 #[tokV p A n c s] w (RetE (.tuple #[.slice none 0 0, .int .i64 1]) w) := by
  by_cases hs : s < 1 ∨ 4611686018427387903 < s
  · rcases hs with hs | hs
    · go_enter Tryz.func32, Tryz.ntmps32
      go_wp2_with fail
      go_ret2
      exact ⟨rfl, (Ext.refl w).alloc _⟩
    · have hs' : ¬ s < 1 := by omega
      go_enter Tryz.func32, Tryz.ntmps32
      go_wp2_with fail
      go_ret2
      exact ⟨rfl, (Ext.refl w).alloc _⟩
  · have h1 : ¬ s < 1 := by omega
    have h2 : ¬ 4611686018427387903 < s := by omega
    have hp : p < 0 ∨ 32 ≤ p := by omega
    clear hs h
    go_enter Tryz.func32, Tryz.ntmps32
    go_wp2_with fail
    refine (ident_arg p A n c _ hp).mono ?_
    rintro e w1 ⟨rfl, rfl⟩
    go_wp2_with fail
    go_ret2
    exact ⟨rfl, (Ext.refl w).alloc _⟩
theorem tokEncode_long (w : World) (p s : Int) (A : Option Addr) (n c : Nat) (h1 : 1 ≤ s) (h2 : s ≤ 4611686018427387903) (h3 : 0 ≤ p) (h4 : p < 32) (hn : 255 < n) :
    Calls Tryz.prog 32 #[tokV p A n c s] w (RetE (.tuple #[.slice none 0 0, .int .i64 2]) w) := by
  have h1' : ¬ s < 1 := by omega
  have h2' : ¬ 4611686018427387903 < s := by omega
  go_enter Tryz.func32, Tryz.ntmps32
  go_wp2_with fail
  refine (ident_long p A n c _ h3 h4 hn).mono ?_
  rintro e w1 ⟨rfl, rfl⟩
  go_wp2_with fail
  go_ret2
  exact ⟨rfl, (Ext.refl w).alloc _⟩
theorem and_sum (u : Nat) (hu : u < 18446744073709551616) : bits .and .u64 (u : Int) 4294967295 = ((u % 4294967296 : Nat) : Int) := by
  rw [show (4294967295 : Int) = ((4294967295 : Nat) : Int) from rfl, Go.u64_and_nat u 4294967295 hu (by omega)]
  have h := Nat.and_two_pow_sub_one_eq_mod u 32
  simp only [Nat.reducePow, Nat.reduceSub] at h
  rw [h]
theorem own_head4 (w : World) (p n : Nat) : (w.alloc (.cells #[.int .u8 83, .int .u8 71, .int .u8 (p : Int), .int .u8 (n : Int)] 5)).ownsRow w.heap.size 5 1 (.slice (some ⟨w.heap.size, 0, none⟩) 4 4) 4 (vals .u8 [83, 71, p, n]) :=
  own_made w _ 5 1 4 rfl (by unfold maxLen; omega) (Nat.le_refl _)

set_option maxHeartbeats 2000000 in
theorem tokEncode_ok (w : World) (p s : Nat) (A : Option Addr) (n c : Nat) (xs : List Nat) (hl : xs.length = n) (hb : ∀ x ∈ xs, x < 256) (hr : Rd w A (vals .u8 xs)) (h1 : 1 ≤ s) (h2 : s ≤ 4611686018427387903) (h4 : p < 32) (hn : n ≤ 255) :
    Calls Tryz.prog 32 #[tokV (p : Int) A n c (s : Int)] w (RetBE (tokB p xs s) 0 w) := by
  have Hl := Lib.hid hl; have Hr := Lib.hid hr; have Hb := Lib.hid hb; clear hl hr hb
  go_enter Tryz.func32, Tryz.ntmps32
  go_wp2_with fail
  refine (ident_ok p A n c xs _ h4 Hl.out hn (Hr.out.alloc _)).mono ?_
  rintro e w1 ⟨A1, c1, rfl, hown1, hx1⟩
  have hl1 : (p :: xs).length = n + 1 := by rw [List.length_cons, Hl.out]
  rw [hl1] at hown1 ⊢
  clear hl1
  obtain ⟨g, rfl, hg, hg'⟩ := own_block hown1 (by omega)
  have hc0 := hown1.cellAt 0 (by omega)
  have hc0' : w1.cell? ⟨g, 0, none⟩ = some (.int .u8 (p : Int)) := by rw [hc0]; rfl
  have hcap := own_cap hown1
  obtain ⟨d, hd⟩ : ∃ d, c1 = d + 1 := ⟨c1 - 1, by omega⟩
  obtain ⟨A2, hsl, hrd, _⟩ := slice_from_any Tryz.underlying32 size_u8 (A := some ⟨g, 0, none⟩) (n := n + 1) (c := c1) (m := n) (d := d) 1 (ki := 1) rfl hcap rfl hd
  have hr2 := Lib.hid (hrd w1 (vals .u8 (p :: xs)) (by rw [vals_len, List.length_cons, Hl.out]) (Rd.of_own hown1))
  have hb0 : w1.cell? ⟨w.heap.size, 1, none⟩ = some (.slice A n c) := by
    rw [hx1.cell (p := ⟨w.heap.size, 1, none⟩) (by simp)]
    exact World.cell?_alloc_new _ _ _ _
  have hb2 : w1.cell? ⟨w.heap.size, 2, none⟩ = some (.int .i64 (s : Int)) := by
    rw [hx1.cell (p := ⟨w.heap.size, 2, none⟩) (by simp)]
    exact World.cell?_alloc_new _ _ _ _
  clear hc0 hown1 hrd
  have Hd := Lib.hid hd; clear hd
  go_upto_region 6 with fail
  go_cut [6] (fun v wd => ∃ A6 c6, v = .slice A6 (4 + n) c6 ∧ wd.ownsRow w1.heap.size 5 1 (.slice A6 (4 + n) c6) (4 + n) (vals .u8 ([83, 71, p, n] ++ xs)) ∧ Ext w1 wd)
  case first =>
    have hwn : IntKind.u8.wrap (n : Int) = (n : Int) := by rw [IntKind.wrap_u8]; omega
    have hoo : (w1.alloc (.cells #[.int .u8 83, .int .u8 71, .int .u8 (p : Int), .int .u8 (n : Int)] 5)).drew.ownsRow w1.heap.size 5 1 (.slice (some ⟨w1.heap.size, 0, none⟩) 4 4) 4 (vals .u8 [83, 71, p, n]) := own_head4 w1 p n
    have hrr : Rd (w1.alloc (.cells #[.int .u8 83, .int .u8 71, .int .u8 (p : Int), .int .u8 (n : Int)] 5)).drew A2 (vals .u8 xs) := (hr2.out.alloc _).drew
    have Hoo := Lib.hid hoo; have Hrr := Lib.hid hrr; clear hoo hrr
    go_region_law ((refine step_app_u8 (w1.alloc (.cells #[.int .u8 83, .int .u8 71, .int .u8 (p : Int), .int .u8 (n : Int)] 5)).drew rfl (.tmp 33) (.tmp 35) rfl w1.heap.size (B := some ⟨w1.heap.size, 0, none⟩) (n := 4) (cb := 4) (xs := [83, 71, p, n]) (by simp [Act.eval]) Hoo.out (A := A2) (m := n) (c := d) (news := xs) (by simp [Act.eval]) Hl.out Hrr.out (by omega) (by simp) ?_; intro A6 c6 w6 hown6 hgrow6 _))
    all_goals
      go_wp2_with fail
      go_meet
      exact ⟨_, _, rfl, by assumption, (((Ext.refl w1).alloc _).drew).grown (by assumption) (by simp [Value.ownBlock])⟩
  case rest =>
    obtain ⟨A6, c6, rfl, hown6, hy6⟩ := hcut
    have hk2 : wc.cell? ⟨w.heap.size, 2, none⟩ = some (.int .i64 (s : Int)) := by
      rw [hy6.cell (p := ⟨w.heap.size, 2, none⟩) (World.block_lt_of_cell? w1 _ hb2)]; exact hb2
    have Hown6 := Lib.hid hown6; clear hown6 hb0 hb2 hc0'
    have hl6 : ([83, 71, p, n] ++ xs).length = 4 + n := by rw [List.length_append, Hl.out]; rfl
    have Hl6 := Lib.hid hl6; clear hl6
    have hs6 : w1.heap.size ≤ wc.heap.size := hy6.size
    go_wp2_with fail
    refine (tokWord_any wc w1 w1.heap.size A6 (4 + n) c6 _ s 8 Hl6.out Hown6.out hy6 (Nat.le_refl _) hs6 (by omega) (by omega) (by omega)).mono ?_
    rintro e w7 ⟨A7, c7, rfl, hown7, hy7, hs7⟩
    have hbody : [83, 71, p, n] ++ xs ++ wordB s 8 = bodyT p xs s := by rw [bodyT, Hl.out]; rfl
    rw [hbody] at hown7
    have hbl : (bodyT p xs s).length = 4 + n + 8 := by rw [bodyT_len, Hl.out]; omega
    have hbb : ∀ x ∈ bodyT p xs s, x < 256 := fun x hx => by
      simp only [bodyT, List.mem_cons, List.mem_append] at hx
      rcases hx with rfl | rfl | rfl | rfl | hx | hx
      · omega
      · omega
      · omega
      · have := Hl.out; omega
      · exact Hb.out x hx
      · exact wordB_lt _ _ x hx
    have Hown7 := Lib.hid hown7; have Hbl := Lib.hid hbl; have Hbb := Lib.hid hbb; clear hown7 hbody hbl hbb
    have hr7 := Lib.hid (Rd.of_own Hown7.out)
    clear Hown6
    go_wp2_with fail
    refine (sum_any A7 (4 + n + 8) c7 (bodyT p xs s) w7 Hbl.out Hbb.out (by omega) hr7.out).mono ?_
    rintro e w8 ⟨rfl, rfl⟩
    go_wp2_with fail
    rw [and_sum _ (upd_lt _ _ (by omega))]
    refine (tokWord_any w7 w1 w1.heap.size A7 (4 + n + 8) c7 _ (sumT (bodyT p xs s)) 4 Hbl.out Hown7.out hy7 (Nat.le_refl _) (by omega) (Nat.lt_trans (Nat.mod_lt _ (by omega)) (by omega)) (by omega) (by omega)).mono ?_
    rintro e w9 ⟨A9, c9, rfl, hown9, hy9, hs9⟩
    have hlt : (tokB p xs s).length = 4 + n + 8 + 4 := by rw [tokB_len, Hl.out]; omega
    have Hlt := Lib.hid hlt; have Hown9 := Lib.hid hown9; clear hlt hown9
    go_wp2_with fail
    go_ret2
    have hx9 : Ext w w9 := (((Ext.refl w).alloc _).trans hx1).trans hy9
    exact retBE_of Hlt.out (own_base Hown9.out (by have := hx1.size; simp at this; omega)) hx9
end

section
open Go.RowKit

/-- the bytes of a right token -/
def IsTok (ys : List Nat) : Prop := ∃ (p s : Nat) (xs : List Nat), p < 32 ∧ 1 ≤ s ∧ s ≤ 4611686018427387903 ∧ xs.length ≤ 255 ∧ (∀ x ∈ xs, x < 256) ∧ ys = tokB p xs s

theorem wordB_of (xs : List Nat) (k s : Nat) (hb : ∀ x ∈ xs, x < 256) (hl : xs.length = k) (h : numB xs = s) : wordB s k = xs := by
  have := wordB_numB xs hb 0
  rw [Nat.zero_mul, Nat.zero_add, hl, h] at this
  exact this
theorem tok_build (ys : List Nat) (p k s : Nat) (hb : ∀ x ∈ ys, x < 256) (hlen : ys.length = k + 16) (h0 : ys[0]? = some 83) (h1 : ys[1]? = some 71) (h2 : ys[2]? = some p) (h3 : ys[3]? = some k)
    (hs : numB ((ys.drop (4 + k)).take 8) = s) (hq : numB (ys.drop (4 + k + 8)) = upd 14695981039346656037 (ys.take (4 + k + 8)) % 4294967296) : ys = tokB p ((ys.drop 4).take k) s := by
  obtain ⟨r, rfl⟩ : ∃ r, ys = 83 :: 71 :: p :: k :: r := by
    match ys, hlen, h0, h1, h2, h3 with
    | a :: b :: c :: d :: r, _, h0, h1, h2, h3 =>
      simp at h0 h1 h2 h3
      subst h0 h1 h2 h3
      exact ⟨r, rfl⟩
    | [], hlen, _, _, _, _ => simp at hlen
    | [_], hlen, _, _, _, _ => simp at hlen
    | [_, _], hlen, _, _, _, _ => simp at hlen
    | [_, _, _], hlen, _, _, _, _ => simp at hlen
  have hlr : r.length = k + 12 := by simp at hlen; omega
  have e1 : (83 :: 71 :: p :: k :: r).drop (4 + k) = r.drop k := by
    rw [show 4 + k = k + 4 by omega]; rfl
  have e2 : (83 :: 71 :: p :: k :: r).drop (4 + k + 8) = r.drop (k + 8) := by
    rw [show 4 + k + 8 = (k + 8) + 4 by omega]; rfl
  have e3 : (83 :: 71 :: p :: k :: r).take (4 + k + 8) = 83 :: 71 :: p :: k :: r.take (k + 8) := by
    rw [show 4 + k + 8 = (k + 8) + 4 by omega]; rfl
  have e4 : (83 :: 71 :: p :: k :: r).drop 4 = r := rfl
  rw [e1] at hs
  rw [e2, e3] at hq
  rw [e4]
  have hbr : ∀ x ∈ r, x < 256 := fun x hx => hb x (by simp [hx])
  have hw8 : wordB s 8 = (r.drop k).take 8 := wordB_of _ 8 s (fun x hx => hbr x (List.mem_of_mem_drop (List.mem_of_mem_take hx))) (by rw [List.length_take, List.length_drop]; omega) hs
  have hkl : (r.take k).length = k := by rw [List.length_take]; omega
  have hbody : bodyT p (r.take k) s = 83 :: 71 :: p :: k :: r.take (k + 8) := by
    rw [bodyT, hkl, hw8, List.take_add]
  have hw4 : wordB (sumT (bodyT p (r.take k) s)) 4 = r.drop (k + 8) := by
    rw [hbody]
    exact wordB_of _ 4 _ (fun x hx => hbr x (List.mem_of_mem_drop hx)) (by rw [List.length_drop]; omega) hq
  rw [tokB, hw4, hbody]
  simp
theorem isTok_of (ys : List Nat) (p k s : Nat) (hb : ∀ x ∈ ys, x < 256) (hlen : ys.length = k + 16) (h0 : ys[0]? = some 83) (h1 : ys[1]? = some 71) (h2 : ys[2]? = some p) (h3 : ys[3]? = some k) (hp : p < 32) (hk : k < 256)
    (hs : numB ((ys.drop (4 + k)).take 8) = s) (hs1 : 1 ≤ s) (hs2 : s ≤ 4611686018427387903) (hq : numB (ys.drop (4 + k + 8)) = upd 14695981039346656037 (ys.take (4 + k + 8)) % 4294967296) : IsTok ys :=
  ⟨p, s, (ys.drop 4).take k, hp, hs1, hs2, by rw [List.length_take]; omega, fun x hx => hb x (List.mem_of_mem_drop (List.mem_of_mem_take hx)), tok_build ys p k s hb hlen h0 h1 h2 h3 hs hq⟩
theorem tokB_lt (p s : Nat) (xs : List Nat) (hp : p < 256) (hl : xs.length < 256) (hb : ∀ x ∈ xs, x < 256) : ∀ x ∈ tokB p xs s, x < 256 := fun x hx => by
  simp only [tokB, bodyT, List.mem_append, List.mem_cons] at hx
  rcases hx with (rfl | rfl | rfl | rfl | hx | hx) | hx
  · omega
  · omega
  · omega
  · omega
  · exact hb x hx
  · exact wordB_lt _ _ x hx
  · exact wordB_lt _ _ x hx
theorem numB_lt_of (xs : List Nat) (hb : ∀ x ∈ xs, x < 256) (hl : xs.length ≤ 8) : numB xs < 18446744073709551616 := by
  have := numB_lt xs hb
  refine Nat.lt_of_lt_of_le this ?_
  rw [show (18446744073709551616 : Nat) = 256 ^ 8 by rfl]
  exact Nat.pow_le_pow_right (by omega) hl
end

section
open Go.RowKit

/-- a reader in memory: the bytes that wait, whether it is closed; all its bytes lie below S -/
def IsRdr (w : World) (r : Nat) (ws : List Nat) (cl : Bool) (S : Nat → Prop) : Prop :=
  ∃ A n c, w.heap[r]? = some (.cells #[.slice A n c, .bool cl] 283 (0, 0)) ∧ ws.length = n ∧ n ≤ c ∧ Rd w A (vals .u8 ws) ∧ ∀ a, A = some a → S a.block

theorem wp_hideQ {P : Program} {c : Code} {Q : Exit → Act → World → Prop} {a : Act} {w : World}
    (h : ∀ Q' : Exit → Act → World → Prop, (∀ e a w, Q e a w → Q' e a w) → c.wp P Q' a w) : c.wp P Q a w := h Q (fun _ _ _ q => q)
set_option maxHeartbeats 1000000 in
theorem take_few (w : World) (r k : Nat) (A : Option Addr) (n c : Nat) (cl : Bool) (h : w.heap[r]? = some (.cells #[.slice A n c, .bool cl] 283 (0, 0))) (hk : n < k) :
    Calls Tryz.prog 216 #[.pointer (some ⟨r, 0, none⟩), .int .i64 (k : Int)] w fun e w' => e = .panicked [{ v := .iface 340 (.agg #[]), recovered := false }] ∧ w = w' := by
  have h0 : w.cell? ⟨r, 0, none⟩ = some (.slice A n c) := blk_cell h 0
  have H := Lib.hid h; clear h
  go_enter Tryz.func216, Tryz.ntmps216
  go_wp2
  exact ⟨rfl, rfl, rfl⟩

set_option maxHeartbeats 1000000 in
theorem take_some (w : World) (r k : Nat) (A A' : Option Addr) (n c m d : Nat) (cl : Bool) (h : w.heap[r]? = some (.cells #[.slice A n c, .bool cl] 283 (0, 0))) (hk : k ≤ n) (hnc : n ≤ c)
    (hsl : ∀ u : World, (Instr.slice 32 (.slice A n c) (some (.int .i64 (k : Int))) none none).run Tryz.prog u = .ok (.slice A' m d) u) :
    Calls Tryz.prog 216 #[.pointer (some ⟨r, 0, none⟩), .int .i64 (k : Int)] w fun e w' => e = .returned (.slice A k c) ∧ w.setCell ⟨r, 0, none⟩ (.slice A' m d) = w' := by
  have h0 : w.cell? ⟨r, 0, none⟩ = some (.slice A n c) := blk_cell h 0
  have hf := blk_frozen h 0
  have H := Lib.hid h; clear h
  go_enter Tryz.func216, Tryz.ntmps216
  go_wp2
  go_ret
  exact ⟨rfl, rfl⟩


set_option maxRecDepth 100000 in
theorem undo_panicking (w : World) (r br bw : Nat) (A B : Option Addr) (n c m d : Nat) (cl : Bool) (older : List PanicEntry)
    (hr : w.heap[r]? = some (.cells #[.slice A n c, .bool cl] 283 (0, 0))) (h1 : w.cell? ⟨br, 0, none⟩ = some (.pointer (some ⟨r, 0, none⟩))) (h2 : w.cell? ⟨bw, 0, none⟩ = some (.slice B m d)) :
    CallsD Tryz.prog 215 #[.pointer (some ⟨bw, 0, none⟩), .pointer (some ⟨br, 0, none⟩)] (.panicking ({ v := .iface 340 (.agg #[]), recovered := false } :: older)) w fun e u' w' =>
      e = .returned (.tuple #[]) ∧ u' = .panicking ({ v := .iface 340 (.agg #[]), recovered := true } :: older) ∧ (w.alloc (.cells #[] 340)).setCell ⟨r, 0, none⟩ (.slice B m d) = w' := by
  refine callsD_of_wpS Tryz.func215 rfl fun c₀ cs hu => ?_
  have hc0 : w.cell? ⟨r, 0, none⟩ = some (.slice A n c) := blk_cell hr 0
  have hf0 := blk_frozen hr 0
  have hta : ∀ u : World, (Instr.typeAssert (.iface 340 (.agg #[])) 20 340 true).run Tryz.prog u = .ok (.tuple #[.agg #[], .bool true]) u := fun _ => by kernel_rfl
  have p1 := cell_past h1; have p2 := cell_past h2; have p3 := cell_past hc0; have p4 := frozen_past (p := ⟨r, 0, none⟩) (blk_lt hr) hf0
  have Hr := Lib.hid hr; clear hr
  simp only [Tryz.ntmps215, List.size_toArray, List.length_cons, List.length_nil, Nat.reduceAdd, Nat.reduceSub, Array.replicate_succ, Array.replicate_zero, List.push_toArray, List.append_toArray, List.nil_append, List.cons_append]
  apply wpS_seq
  apply wpS_region
  simp [wpOpsS, go_sem, recoverD, hu, Exit.thenS]
  refine wpS_of_wp ?_
  refine wp_hideQ fun Q hQ => ?_
  have Hu := Lib.hid hu; clear hu
  go_wp2_with fail
  have hu := Hu.out
  exact ⟨rfl, _, rfl, _, results_none rfl _ _ _, rfl, rfl, rfl⟩
theorem undo_idle (w : World) (p q : Value) :
    CallsD Tryz.prog 215 #[p, q] .returning w fun e u' w' => e = .returned (.tuple #[]) ∧ u' = .returning ∧ w = w' := by
  refine callsD_of_wpS Tryz.func215 rfl fun c₀ cs hu => ?_
  simp only [Tryz.ntmps215, List.size_toArray, List.length_cons, List.length_nil, Nat.reduceAdd, Nat.reduceSub, Array.replicate_succ, Array.replicate_zero, List.push_toArray, List.append_toArray, List.nil_append, List.cons_append]
  apply wpS_seq
  apply wpS_region
  simp [wpOpsS, go_sem, recoverD, hu, Exit.thenS]
  refine wpS_of_wp ?_
  refine wp_hideQ fun Q hQ => ?_
  have Hu := Lib.hid hu; clear hu
  go_wp2_with fail
  have hu := Hu.out
  exact ⟨rfl, .returning, by cases c₀; simp at hu; subst hu; rfl, _, results_none rfl _ _ _, rfl, rfl, rfl⟩
end

section
open Go.RowKit

theorem own_head4b (w : World) (o : Obj) (p n : Nat) : ((w.alloc o).alloc (.cells #[.int .u8 83, .int .u8 71, .int .u8 (p : Int), .int .u8 (n : Int)] 5)).ownsRow w.heap.size 5 1 (.slice (some ⟨w.heap.size + 1, 0, none⟩) 4 4) 4 (vals .u8 [83, 71, p, n]) := by
  have h := own_head4 (w.alloc o) p n
  rw [World.size_alloc] at h
  exact own_base h (by omega)
set_option maxHeartbeats 2000000 in
theorem refTok_any (w : World) (p s : Nat) (A : Option Addr) (n c : Nat) (xs : List Nat) (hl : xs.length = n) (hb : ∀ x ∈ xs, x < 256) (hr : Rd w A (vals .u8 xs)) (h1 : 1 ≤ s) (h2 : s ≤ 4611686018427387903) (h4 : p < 32) (hn : n ≤ 255) :
    Calls Tryz.prog 160 #[tokV (p : Int) A n c (s : Int)] w (RetB (tokB p xs s) w) := by
  have Hl := Lib.hid hl; have Hr := Lib.hid hr; have Hb := Lib.hid hb; clear hl hr hb
  have hbl : (bodyT p xs s).length = 4 + n + 8 := by rw [bodyT_len, Hl.out]; omega
  have hbb : ∀ x ∈ bodyT p xs s, x < 256 := fun x hx => by
    simp only [bodyT, List.mem_cons, List.mem_append] at hx
    rcases hx with rfl | rfl | rfl | rfl | hx | hx
    · omega
    · omega
    · omega
    · have := Hl.out; omega
    · exact Hb.out x hx
    · exact wordB_lt _ _ x hx
  have Hbl := Lib.hid hbl; have Hbb := Lib.hid hbb; clear hbl hbb
  have hwn : IntKind.u8.wrap (n : Int) = (n : Int) := by rw [IntKind.wrap_u8]; omega
  have hwp : IntKind.u8.wrap (p : Int) = (p : Int) := by rw [IntKind.wrap_u8]; omega
  go_enter Tryz.func160, Tryz.ntmps160
  go_wp2_with (first | (at_builtin; refine app_u8 _ rfl (.tmp 12) (.tmp 14) rfl w.heap.size rfl (own_head4b w _ p n) rfl Hl.out ((Hr.out.alloc _).alloc _) (by omega) (by simp; omega) ?_; intro A6 c6 w6 hown6 hgrow6 _; have hk2 : w6.cell? ⟨w.heap.size, 2, none⟩ = some (.int .i64 (s : Int)) := (hgrow6.cell_far ⟨w.heap.size, 2, none⟩ (by simp; omega) (by simp [Value.ownBlock])).trans (cell_past (World.cell?_alloc_new _ _ _ _) _)) | fail)
  have hx6 : Ext w w6 := (((Ext.refl w).alloc _).alloc _).grown hgrow6 (fun k hk => by simp [Value.ownBlock] at hk; omega)
  have Hown6 := Lib.hid hown6; clear hown6 hgrow6 hk2
  have hs6 : w.heap.size ≤ w6.heap.size := hx6.size
  go_wp2_with fail
  refine (docWord_any w6 s 8 (by omega) (by omega)).mono ?_
  rintro e w7 ⟨A7, c7, rfl, hown7, hy7⟩
  rw [wordB_len] at hown7 ⊢
  have hr7 := Lib.hid (Rd.of_own hown7)
  have ho6 := own_ext Hown6.out hy7
  have hs7 : w6.heap.size ≤ w7.heap.size := hy7.size
  clear hown7 Hown6
  go_wp2_with (first | (at_builtin; refine app_u8 _ rfl (.tmp 16) (.tmp 20) rfl w.heap.size rfl ho6 rfl (wordB_len s 8) hr7.out (by omega) (by omega) ?_; intro A8 c8 w8 hown8 hgrow8 _) | fail)
  have hbody : [83, 71, p, n] ++ xs ++ wordB s 8 = bodyT p xs s := by rw [bodyT, Hl.out]; rfl
  rw [hbody] at hown8
  have hx8 : Ext w w8 := (hx6.trans hy7).grown hgrow8 (own_ge ho6)
  have hr8 := Lib.hid (Rd.of_own hown8)
  have hs8 : w7.heap.size ≤ w8.heap.size := hgrow8.size
  have Hown8 := Lib.hid hown8; clear hown8 hgrow8 ho6 hbody
  go_wp2_with fail
  refine (refSum_any A8 (4 + n + 8) c8 (bodyT p xs s) w8 Hbl.out Hbb.out (by omega) hr8.out).mono ?_
  rintro e w9 ⟨rfl, rfl⟩
  have hsum : ((upd 14695981039346656037 (bodyT p xs s) : Nat) : Int) % 4294967296 = ((sumT (bodyT p xs s) : Nat) : Int) := rfl
  have hslt : sumT (bodyT p xs s) < 4294967296 := Nat.mod_lt _ (by omega)
  go_wp2_with fail
  rw [hsum]
  refine (docWord_any w8 (sumT (bodyT p xs s)) 4 (by omega) (by omega)).mono ?_
  rintro e w10 ⟨A10, c10, rfl, hown10, hy10⟩
  rw [wordB_len] at hown10 ⊢
  have hr10 := Lib.hid (Rd.of_own hown10)
  have ho8 := own_ext Hown8.out hy10
  have hs10 : w8.heap.size ≤ w10.heap.size := hy10.size
  clear hown10 Hown8
  go_wp2_with (first | (at_builtin; refine app_u8 _ rfl (.tmp 22) (.tmp 26) rfl w.heap.size rfl ho8 rfl (wordB_len _ 4) hr10.out (by omega) (by omega) ?_; intro A11 c11 w11 hown11 hgrow11 _) | fail)
  have hx11 : Ext w w11 := (hx8.trans hy10).grown hgrow11 (own_ge ho8)
  have Hown11 := Lib.hid hown11
  have hlt : (tokB p xs s).length = 4 + n + 8 + 4 := by rw [tokB_len, Hl.out]; omega
  have Hlt := Lib.hid hlt; clear hlt hown11 hgrow11 ho8
  go_ret
  exact retB_of Hlt.out Hown11.out hx11
end

section
open Go.RowKit

abbrev tokZ : Value := tokV 0 none 0 0 0

/-- the return of Decode and of DocDecode: a token's cell and a number -/
theorem ret_tok {fn : Func} (h : fn.results = #[.cell 2 120, .tmp 3]) {tmps : Array Value} {w : World} {g : Nat} {a b c : Value} {t : TypeId} {fr : Nat × Nat} (hp : tmps.getD 2 undef = .pointer (some ⟨g, 0, none⟩)) (hg : w.heap[g]? = some (.cells #[a, b, c] t fr)) :
    (results fn tmps).run Tryz.prog w = .ok (.tuple #[.agg #[a, b, c], tmps.getD 3 undef]) w :=
  results_row_tmp h tmps w g t #[a, b, c] fr _ hp hg Tryz.underlying120 (by rfl) (by kernel_rfl)

/-- what Decode and DocDecode leave of a right token's bytes -/
def RetTok (p : Nat) (xs : List Nat) (s : Nat) (w : World) (e : Ending) (w' : World) : Prop :=
  ∃ A c, e = .returned (.tuple #[tokV (p : Int) A xs.length c (s : Int), .int .i64 0]) ∧ w'.ownsRow w.heap.size 5 1 (.slice A xs.length c) xs.length (vals .u8 xs) ∧ Ext w w'

theorem tok_num (p : Nat) (xs : List Nat) (s : Nat) : (((tokB p xs s).drop (xs.length + 4)).take 8) = wordB s 8 := by
  have e : tokB p xs s = ([83, 71, p, xs.length] ++ xs) ++ (wordB s 8 ++ wordB (sumT (bodyT p xs s)) 4) := by simp [tokB, bodyT]
  rw [e, List.drop_append_of_le_length (by simp), List.drop_of_length_le (by simp), List.nil_append, List.take_append_of_le_length (by rw [wordB_len]; omega), List.take_of_length_le (by rw [wordB_len]; omega)]
theorem tok_sum (p : Nat) (xs : List Nat) (s : Nat) : (tokB p xs s).drop (xs.length + 12) = wordB (sumT (bodyT p xs s)) 4 := by
  rw [tokB, List.drop_append_of_le_length (by rw [bodyT_len]; omega), List.drop_of_length_le (by rw [bodyT_len]; omega), List.nil_append]
theorem tok_body (p : Nat) (xs : List Nat) (s : Nat) : (tokB p xs s).take (xs.length + 12) = bodyT p xs s := by
  rw [tokB, List.take_append_of_le_length (by rw [bodyT_len]; omega), List.take_of_length_le (by rw [bodyT_len]; omega)]
theorem tok_key (p : Nat) (xs : List Nat) (s : Nat) : (((tokB p xs s).drop 4).take xs.length) = xs := by
  have e : tokB p xs s = [83, 71, p, xs.length] ++ (xs ++ (wordB s 8 ++ wordB (sumT (bodyT p xs s)) 4)) := by simp [tokB, bodyT]
  rw [e, List.drop_append_of_le_length (by simp), List.drop_of_length_le (by simp), List.nil_append, List.take_append_of_le_length (by omega), List.take_of_length_le (by omega)]

theorem slice_mid {P : Program} {t e : TypeId} (ht : P.underlying t = some (.slice e)) (hz : ∀ u : World, (sizeOf e).run P u = .ok 1 u) {b off n c m d : Nat} (k h : Nat) {ki hi : Int} (hki : ki = (k : Int)) (hhi : hi = (h : Int)) (hhn : h ≤ n) (hnc : n ≤ c) (h2 : ¬ c = k) (hm : h = m + k) (hd : c = d + k) (u : World) :
    (Instr.slice t (.slice (some ⟨b, off, none⟩) n c) (some (.int .i64 ki)) (some (.int .i64 hi)) none).run P u = .ok (.slice (some ⟨b, off + k, none⟩) m d) u := by
  subst hki hhi
  have he : P.elem t = e := by simp [Program.elem, ht]
  rw [run_slice_lh (P := P) u t _ n c (by rw [he]; exact ht) .i64 .i64 (k : Int) (h : Int) (by omega) (by omega) (by omega), he, hz]
  simp only [Result.andThen, sliced, Int.toNat_natCast, if_neg h2, Option.map_some, Addr.add_lit, Nat.mul_one]
  congr 2 <;> omega
theorem rd_off {w : World} {b off : Nat} {vs : List Value} (h : Rd w (some ⟨b, off, none⟩) vs) (j : Nat) : Rd w (some ⟨b, off + j, none⟩) (vs.drop j) := by
  intro hne
  obtain ⟨b', off', hA, hc⟩ := h (by rintro rfl; simp at hne)
  injection hA with hA; injection hA with e1 e2 _; subst e1 e2
  exact ⟨b, off + j, rfl, fun i u hu => by rw [Nat.add_assoc]; exact hc (j + i) u (by rw [← hu, List.getElem?_drop])⟩
theorem rd_cut {w : World} {b off : Nat} {ys zs : List Nat} (h : Rd w (some ⟨b, off, none⟩) (vals .u8 ys)) (j m : Nat) (e : (ys.drop j).take m = zs) : Rd w (some ⟨b, off + j, none⟩) (vals .u8 zs) := by
  have h1 := rd_off h j
  rw [← vals_drop] at h1
  rw [← e]
  exact rd_take (ys := (ys.drop j).drop m) (by rw [List.take_append_drop]; exact h1)

theorem row3h {w : World} {g : Nat} {x y z : Value} {t : TypeId} (h : Hid (w.heap[g]? = some (.cells #[x, y, z] t (0, 0)))) (a b c : Value) : (((w.setCell ⟨g, 0, none⟩ a).setCell ⟨g, 1, none⟩ b).setCell ⟨g, 2, none⟩ c).heap[g]? = some (.cells #[a, b, c] t (0, 0)) := row3 h.out a b c
theorem dec_done {w w2 w6 : World} {p k s c6 : Nat} {xs : List Nat} {A6 : Option Addr} {a b c : Value} (hk : xs.length = k) (ho : w6.ownsRow w2.heap.size 5 1 (.slice A6 (0 + k) c6) (0 + k) (vals .u8 ([] ++ xs))) (hs : w.heap.size < w2.heap.size) (hx : Ext w w2) (hx6 : Ext w2 w6) :
    RetTok p xs s w (.returned (.tuple #[tokV (p : Int) A6 k c6 (s : Int), .int .i64 0])) (((w6.setCell ⟨w.heap.size, 0, none⟩ a).setCell ⟨w.heap.size, 1, none⟩ b).setCell ⟨w.heap.size, 2, none⟩ c) := by
  subst hk
  rw [Nat.zero_add, List.nil_append] at ho
  have hg := grown_setCell (grown_setCell (grown_set w6 w.heap.size 0 a) 1 b) 2 c
  refine ⟨A6, c6, rfl, own_base (ho.kept hg ?_) (Nat.le_of_lt hs), ?_⟩
  · cases hA : (Value.slice A6 xs.length c6).ownBlock with
    | none => exact .inl rfl
    | some q => right; intro e; injection e with e; have := own_ge ho q hA; omega
  · exact (hx.trans hx6).grown hg (fun k hk => by injection hk with hk; omega)

set_option maxHeartbeats 2000000 in
theorem decode_ok (w : World) (p s k : Nat) (A : Option Addr) (n c : Nat) (xs : List Nat) (hk : xs.length = k) (hn : n = k + 16) (hb : ∀ x ∈ xs, x < 256) (hr : Rd w A (vals .u8 (tokB p xs s))) (hnc : n ≤ c) (h1 : 1 ≤ s) (h2 : s ≤ 4611686018427387903) (h4 : p < 32) (hk' : k ≤ 255) :
    Calls Tryz.prog 33 #[.slice A n c] w (RetTok p xs s w) := by
  obtain ⟨b, off, hA, hc⟩ := hr (by simp [vals, tokB, bodyT])
  subst hA
  have c0 : w.cell? ⟨b, off, none⟩ = some (.int .u8 83) := hc 0 _ rfl
  have c1 : w.cell? ⟨b, off + 1, none⟩ = some (.int .u8 71) := hc 1 _ rfl
  have c2 : w.cell? ⟨b, off + 2, none⟩ = some (.int .u8 (p : Int)) := hc 2 _ rfl
  have c3 : w.cell? ⟨b, off + 3, none⟩ = some (.int .u8 (k : Int)) := by rw [← hk]; exact hc 3 _ rfl
  have Hr := Lib.hid hr; have Hk := Lib.hid hk; have Hb := Lib.hid hb
  clear hc hr hk hb
  have d0 := cell_past c0; have d1 := cell_past c1; have d2 := cell_past c2; have d3 := cell_past c3
  have hne : ((n : Int) != 4 + (k : Int) + 12) = false := by simp; omega
  have n1 : k + 16 ≤ n := by omega
  have n2 : n ≤ k + 16 := by omega
  have n3 : ¬ c = 4 + k := by omega
  have n4 : ¬ c = 4 + k + 8 := by omega
  have r1 := rd_cut (zs := wordB s 8) Hr.out (4 + k) 8 (by have := tok_num p xs s; rw [Hk.out, Nat.add_comm] at this; exact this)
  have r2 := rd_cut (zs := wordB (sumT (bodyT p xs s)) 4) Hr.out (4 + k + 8) 4 (by
    have := tok_sum p xs s
    rw [Hk.out, show k + 12 = 4 + k + 8 by omega] at this
    rw [this, List.take_of_length_le (by rw [wordB_len]; omega)])
  have r3 : Rd w (some ⟨b, off, none⟩) (vals .u8 (bodyT p xs s)) := rd_cut Hr.out 0 (k + 12) (by rw [List.drop_zero, ← Hk.out]; exact tok_body p xs s)
  have r4 := rd_cut (zs := xs) Hr.out 4 k (by have := tok_key p xs s; rw [Hk.out] at this; exact this)
  have R1 := Lib.hid r1; have R2 := Lib.hid r2; have R3 := Lib.hid r3; have R4 := Lib.hid r4
  clear r1 r2 r3 r4 hn
  go_enter Tryz.func33, Tryz.ntmps33
  go_wp2_with fail
  have hnum8 : numB (wordB s 8) = s := by
    rw [numB_wordB]
    exact Nat.mod_eq_of_lt (Nat.lt_of_le_of_lt h2 (by decide))
  refine (tokNumber_any _ _ 8 _ (wordB s 8) (wordB_len s 8) (by omega) (wordB_lt s 8) (R1.out.alloc _)).mono ?_
  rintro e w1 ⟨rfl, hw1⟩
  rw [hnum8]
  obtain ⟨U, hU⟩ : ∃ U, upd 14695981039346656037 (bodyT p xs s) = U := ⟨_, rfl⟩
  have hUlt : U < 18446744073709551616 := by rw [← hU]; exact upd_lt _ _ (by omega)
  have hs4 : sumT (bodyT p xs s) = U % 4294967296 := by rw [sumT, hU]
  have hnum4 : numB (wordB (sumT (bodyT p xs s)) 4) = U % 4294967296 := by
    rw [numB_wordB, hs4]
    exact Nat.mod_mod _ _
  have hbl : (bodyT p xs s).length = 4 + k + 8 := by rw [bodyT_len, Hk.out]; omega
  have hbb : ∀ x ∈ bodyT p xs s, x < 256 := fun x hx => by
    simp only [bodyT, List.mem_cons, List.mem_append] at hx
    rcases hx with rfl | rfl | rfl | rfl | hx | hx
    · omega
    · omega
    · omega
    · have := Hk.out; omega
    · exact Hb.out x hx
    · exact wordB_lt _ _ x hx
  have C2 := Lib.hid (fun q => tokNumber_any (w1.drewN q) (some ⟨b, off + (4 + k + 8), none⟩) (n - (4 + k + 8)) (c - (4 + k + 8)) (wordB (sumT (bodyT p xs s)) 4) (by rw [wordB_len]; omega) (by omega) (wordB_lt _ 4) (by rw [← hw1]; exact (R2.out.alloc _).drewN q))
  have C3 := Lib.hid (fun q => sum_any (some ⟨b, off, none⟩) (4 + k + 8) c (bodyT p xs s) (w1.drewN q) hbl hbb (by omega) (by rw [← hw1]; exact (R3.out.alloc _).drewN q))
  rw [hnum4] at C2
  rw [hU] at C3
  have hand := and_sum U hUlt
  have k0 : w1.heap[w.heap.size]? = some (.cells #[.int .i64 0, .slice none 0 0, .int .i64 0] 120 (0, 0)) := by rw [← hw1]; exact heap_alloc_new w _
  have k2 : w1.cell? ⟨b, off + 2, none⟩ = some (.int .u8 (p : Int)) := by rw [← hw1]; exact d2 _
  have hx1 : Ext w w1 := by rw [← hw1]; exact (Ext.refl w).alloc _
  have R4' := Lib.hid (R4.out.ext hx1)
  clear hw1 hU hs4 hnum4 hbl hbb hnum8 c0 c1 c2 c3 d0 d1 d2 d3 R1 R2 R3
  have q1 : decide ((s : Int) < 1) = false := by simp; omega
  have q2 : decide (4611686018427387903 < (s : Int)) = false := by simp; omega
  go_upto_region 7 with fail
  go_quiet ((first
    | (go_at_call 75; exact quiet_eq (C2.out _))
    | (go_at_call 75; exact quiet_add_eq (C2.out _))
    | (go_at_call 74; exact quiet_eq (C3.out _))
    | (go_at_call 74; exact quiet_add_eq (C3.out _))))
  clear hand C2 C3 q1 q2 hUlt
  go_upto_region 9 with fail
  obtain ⟨w2, hw2⟩ : ∃ w2, w1.drewN nq = w2 := ⟨_, rfl⟩
  have k0' : w2.heap[w.heap.size]? = some (.cells #[.int .i64 0, .slice none 0 0, .int .i64 0] 120 (0, 0)) := by rw [← hw2]; exact k0
  have k2' : w2.cell? ⟨b, off + 2, none⟩ = some (.int .u8 (p : Int)) := by rw [← hw2]; exact k2
  have hx2 : Ext w w2 := by rw [← hw2]; exact hx1.drewN nq
  have hs2 : w.heap.size < w2.heap.size := by rw [← hw2]; exact blk_lt k0
  have R5 := Lib.hid (R4.out.ext hx2)
  rw [hw2]
  clear hw2 k0 k2 hx1 R4'
  have w1s : IntKind.i64.wrap (s : Int) = (s : Int) := by rw [IntKind.wrap_i64]; omega
  have w1p : IntKind.i64.wrap (p : Int) = (p : Int) := by rw [IntKind.wrap_i64]; omega
  have hsl : ∀ u : World, (Instr.slice 32 (.slice (some ⟨b, off, none⟩) n c) (some (.int .i64 4)) (some (.int .i64 (4 + (k : Int)))) none).run Tryz.prog u = .ok (.slice (some ⟨b, off + 4, none⟩) k (c - 4)) u := fun u => slice_mid Tryz.underlying32 size_u8 4 (4 + k) rfl (by omega) (by omega) hnc (by omega) (by omega) (by omega) u
  go_region_law ((refine step_app_u8 w2.drew rfl (.const (.slice none 0 0)) (.tmp 81) rfl w2.heap.size (B := none) (n := 0) (cb := 0) (xs := []) (by simp [Act.eval]) (World.ownsRow_nil _ _ _ _) (A := some ⟨b, off + 4, none⟩) (m := k) (c := c - 4) (news := xs) (by simp [Act.eval, Act.put]) Hk.out (show Rd w2.drew _ _ from R5.out) (by omega) (by simp) ?_; intro A6 c6 w6 hown6 hgrow6 _; have hx6 : Ext w2 w6 := ((Ext.refl w2).drew).grown hgrow6 (by simp [Value.ownBlock]); have k6 : w6.cell? ⟨b, off + 2, none⟩ = some (.int .u8 (p : Int)) := (hx6.cell (p := ⟨b, off + 2, none⟩) (World.block_lt_of_cell? w2 _ k2')).trans k2'; have k60 := Lib.hid (blk_ext k0' hx6); have g0 := blk_cell k60.out 0; have g1 := blk_cell k60.out 1; have g2 := blk_cell k60.out 2; have f0 := blk_frozen k60.out 0; have f1 := blk_frozen k60.out 1; have f2 := blk_frozen k60.out 2))
  all_goals
    go_wp2_with fail
    refine bodyPost_ret (ret_tok rfl rfl (row3h (by assumption) _ _ _)) rfl ?_
    exact dec_done Hk.out (by assumption) hs2 hx2 (by assumption)
end

section
open Go.RowKit

theorem decode_few (w : World) (A : Option Addr) (n c : Nat) (hn : n < 16) :
    Calls Tryz.prog 33 #[.slice A n c] w (RetE (.tuple #[tokZ, .int .i64 3]) w) := by
  go_enter Tryz.func33, Tryz.ntmps33
  go_wp2_with fail
  refine bodyPost_ret (ret_tok rfl rfl (heap_alloc_new w _)) rfl ?_
  exact ⟨rfl, (Ext.refl w).alloc _⟩
/-- the first bytes -/
theorem heads {w : World} {A : Option Addr} {ys : List Nat} (hr : Rd w A (vals .u8 ys)) (hl : 4 ≤ ys.length) :
    ∃ b off y0 y1 y2 y3 : Nat, A = some ⟨b, off, none⟩ ∧ w.cell? ⟨b, off, none⟩ = some (.int .u8 (y0 : Int)) ∧ w.cell? ⟨b, off + 1, none⟩ = some (.int .u8 (y1 : Int)) ∧ w.cell? ⟨b, off + 2, none⟩ = some (.int .u8 (y2 : Int)) ∧ w.cell? ⟨b, off + 3, none⟩ = some (.int .u8 (y3 : Int)) ∧
      ys[0]? = some y0 ∧ ys[1]? = some y1 ∧ ys[2]? = some y2 ∧ ys[3]? = some y3 := by
  match ys, hl with
  | a :: b :: c :: d :: r, _ =>
    obtain ⟨bb, off, hA, hc⟩ := hr (by simp [vals])
    exact ⟨bb, off, a, b, c, d, hA, hc 0 _ rfl, hc 1 _ rfl, hc 2 _ rfl, hc 3 _ rfl, rfl, rfl, rfl, rfl⟩

set_option maxHeartbeats 2000000 in
theorem decode_bad1 (w : World) (b off n c y0 y1 y2 y3 : Nat) (hn : 16 ≤ n) (hn' : n ≤ 4096) (hy0 : y0 < 256) (hy1 : y1 < 256) (hy2 : y2 < 256) (hy3 : y3 < 256)
    (c0 : w.cell? ⟨b, off, none⟩ = some (.int .u8 (y0 : Int))) (c1 : w.cell? ⟨b, off + 1, none⟩ = some (.int .u8 (y1 : Int))) (c2 : w.cell? ⟨b, off + 2, none⟩ = some (.int .u8 (y2 : Int))) (c3 : w.cell? ⟨b, off + 3, none⟩ = some (.int .u8 (y3 : Int)))
    (h : y0 ≠ 83 ∨ y1 ≠ 71 ∨ 32 ≤ y2 ∨ n ≠ 4 + y3 + 12) :
    Calls Tryz.prog 33 #[.slice (some ⟨b, off, none⟩) n c] w (RetE (.tuple #[tokZ, .int .i64 3]) w) := by
  have d0 := cell_past c0; have d1 := cell_past c1; have d2 := cell_past c2; have d3 := cell_past c3
  clear c0 c1 c2 c3
  have q0 : y0 ≠ 83 → ((y0 : Int) != 83) = true := fun h => by simp; omega
  have q1 : y1 ≠ 71 → ((y1 : Int) != 71) = true := fun h => by simp; omega
  have q3 : n ≠ 4 + y3 + 12 → ((n : Int) != 4 + (y3 : Int) + 12) = true := fun h => by simp; omega
  by_cases h0 : y0 = 83
  · subst h0
    by_cases h1 : y1 = 71
    · subst h1
      by_cases h2 : 32 ≤ y2
      · clear q0 q1 q3 h
        go_enter Tryz.func33, Tryz.ntmps33
        go_wp2_with fail
        refine bodyPost_ret (ret_tok rfl rfl (heap_alloc_new w _)) rfl ?_
        exact ⟨rfl, (Ext.refl w).alloc _⟩
      · have h2' : y2 < 32 := by omega
        have hne := q3 (by omega)
        clear q0 q1 q3 h h2
        go_enter Tryz.func33, Tryz.ntmps33
        go_wp2_with fail
        refine bodyPost_ret (ret_tok rfl rfl (heap_alloc_new w _)) rfl ?_
        exact ⟨rfl, (Ext.refl w).alloc _⟩
    · have hne := q1 h1
      clear q0 q1 q3 h h1
      go_enter Tryz.func33, Tryz.ntmps33
      go_wp2_with fail
      refine bodyPost_ret (ret_tok rfl rfl (heap_alloc_new w _)) rfl ?_
      exact ⟨rfl, (Ext.refl w).alloc _⟩
  · have hne := q0 h0
    clear q0 q1 q3 h h0
    go_enter Tryz.func33, Tryz.ntmps33
    go_wp2_with fail
    refine bodyPost_ret (ret_tok rfl rfl (heap_alloc_new w _)) rfl ?_
    exact ⟨rfl, (Ext.refl w).alloc _⟩

theorem row3n (w : World) (x y z : Value) (t : TypeId) (q : Nat) (a b c : Value) : (((((w.alloc (.cells #[x, y, z] t)).drewN q).setCell ⟨w.heap.size, 0, none⟩ a).setCell ⟨w.heap.size, 1, none⟩ b).setCell ⟨w.heap.size, 2, none⟩ c).heap[w.heap.size]? = some (.cells #[a, b, c] t (0, 0)) :=
  row3 (w := (w.alloc (.cells #[x, y, z] t)).drewN q) (heap_alloc_new w _) a b c
theorem ext3n (w : World) (o : Obj) (q : Nat) (a b c : Value) : Ext w (((((w.alloc o).drewN q).setCell ⟨w.heap.size, 0, none⟩ a).setCell ⟨w.heap.size, 1, none⟩ b).setCell ⟨w.heap.size, 2, none⟩ c) :=
  (((((Ext.refl w).alloc o).drewN q).setCell (p := ⟨w.heap.size, 0, none⟩) (Nat.le_refl _) a).setCell (p := ⟨w.heap.size, 1, none⟩) (Nat.le_refl _) b).setCell (p := ⟨w.heap.size, 2, none⟩) (Nat.le_refl _) c
set_option maxHeartbeats 2000000 in
theorem decode_bad2 (w : World) (b off n c p k : Nat) (ys : List Nat) (hl : ys.length = n) (hb : ∀ x ∈ ys, x < 256) (hr : Rd w (some ⟨b, off, none⟩) (vals .u8 ys)) (hnc : n ≤ c) (hn : n = k + 16) (hk : k < 256) (hp : p < 32)
    (c0 : w.cell? ⟨b, off, none⟩ = some (.int .u8 83)) (c1 : w.cell? ⟨b, off + 1, none⟩ = some (.int .u8 71)) (c2 : w.cell? ⟨b, off + 2, none⟩ = some (.int .u8 (p : Int))) (c3 : w.cell? ⟨b, off + 3, none⟩ = some (.int .u8 (k : Int)))
    (h : numB ((ys.drop (4 + k)).take 8) < 1 ∨ 4611686018427387903 < numB ((ys.drop (4 + k)).take 8) ∨ numB (ys.drop (4 + k + 8)) ≠ upd 14695981039346656037 (ys.take (4 + k + 8)) % 4294967296) :
    Calls Tryz.prog 33 #[.slice (some ⟨b, off, none⟩) n c] w (RetE (.tuple #[tokZ, .int .i64 3]) w) := by
  have d0 := cell_past c0; have d1 := cell_past c1; have d2 := cell_past c2; have d3 := cell_past c3
  clear c0 c1 c2 c3
  have hne : ((n : Int) != 4 + (k : Int) + 12) = false := by simp; omega
  have n1 : k + 16 ≤ n := by omega
  have n2 : n ≤ k + 16 := by omega
  have n3 : ¬ c = 4 + k := by omega
  have n4 : ¬ c = 4 + k + 8 := by omega
  have r1 := rd_cut (zs := (ys.drop (4 + k)).take 8) hr (4 + k) 8 rfl
  have r2 := rd_cut (zs := ys.drop (4 + k + 8)) hr (4 + k + 8) 4 (by rw [List.take_of_length_le (by rw [List.length_drop]; omega)])
  have r3 : Rd w (some ⟨b, off, none⟩) (vals .u8 (ys.take (4 + k + 8))) := rd_cut hr 0 (4 + k + 8) (by rw [List.drop_zero])
  have l1 : ((ys.drop (4 + k)).take 8).length = 8 := by rw [List.length_take, List.length_drop]; omega
  have l2 : (ys.drop (4 + k + 8)).length = n - (4 + k + 8) := by rw [List.length_drop]; omega
  have l3 : (ys.take (4 + k + 8)).length = 4 + k + 8 := by rw [List.length_take]; omega
  have b1 : ∀ x ∈ (ys.drop (4 + k)).take 8, x < 256 := fun x hx => hb x (List.mem_of_mem_drop (List.mem_of_mem_take hx))
  have b2 : ∀ x ∈ ys.drop (4 + k + 8), x < 256 := fun x hx => hb x (List.mem_of_mem_drop hx)
  have b3 : ∀ x ∈ ys.take (4 + k + 8), x < 256 := fun x hx => hb x (List.mem_of_mem_take hx)
  have C1 := Lib.hid (fun (o : Obj) => tokNumber_any (w.alloc o) (some ⟨b, off + (4 + k), none⟩) 8 (c - (4 + k)) _ l1 (by omega) b1 (r1.alloc o))
  have C2 := Lib.hid (fun (o : Obj) q => tokNumber_any ((w.alloc o).drewN q) (some ⟨b, off + (4 + k + 8), none⟩) (n - (4 + k + 8)) (c - (4 + k + 8)) _ l2 (by omega) b2 ((r2.alloc o).drewN q))
  have C3 := Lib.hid (fun (o : Obj) q => sum_any (some ⟨b, off, none⟩) (4 + k + 8) c _ ((w.alloc o).drewN q) l3 b3 (by omega) ((r3.alloc o).drewN q))
  have hS := numB_lt_of _ b1 (by omega)
  have hQ := numB_lt_of _ b2 (by omega)
  have hU := upd_lt 14695981039346656037 (ys.take (4 + k + 8)) (by omega)
  generalize numB ((ys.drop (4 + k)).take 8) = s at *
  generalize numB (ys.drop (4 + k + 8)) = q at *
  generalize upd 14695981039346656037 (ys.take (4 + k + 8)) = U at *
  have hand := and_sum U hU
  clear hl hb hr r1 r2 r3 l1 l2 l3 b1 b2 b3 hn
  by_cases hs : s < 1 ∨ 4611686018427387903 < s
  · have hcase : (decide ((s : Int) < 1) = true) ∨ (decide ((s : Int) < 1) = false ∧ decide (4611686018427387903 < (s : Int)) = true) := by
      by_cases h1 : s < 1
      · left; simp; omega
      · right; simp; omega
    clear h hs hand C2 C3
    rcases hcase with q1 | ⟨q1, q2⟩
    all_goals
      go_enter Tryz.func33, Tryz.ntmps33
      go_wp2_with fail
      refine (C1.out _).mono ?_
      rintro e w1 ⟨rfl, rfl⟩
      go_upto_region 7 with fail
      go_quiet (fail)
      go_wp2_with fail
      refine bodyPost_ret (ret_tok rfl rfl (row3n w _ _ _ _ _ _ _ _)) rfl ?_
      exact ⟨rfl, ext3n w _ _ _ _ _⟩
  · have q1 : decide ((s : Int) < 1) = false := by simp; omega
    have q2 : decide (4611686018427387903 < (s : Int)) = false := by simp; omega
    have hqq : ((q : Int) != ((U % 4294967296 : Nat) : Int)) = true := by
      have : q ≠ U % 4294967296 := by omega
      simp; omega
    clear h hs
    go_enter Tryz.func33, Tryz.ntmps33
    go_wp2_with fail
    refine (C1.out _).mono ?_
    rintro e w1 ⟨rfl, rfl⟩
    go_upto_region 7 with fail
    go_quiet ((first
      | (go_at_call 75; exact quiet_eq (C2.out _ _))
      | (go_at_call 75; exact quiet_add_eq (C2.out _ _))
      | (go_at_call 74; exact quiet_eq (C3.out _ _))
      | (go_at_call 74; exact quiet_add_eq (C3.out _ _))))
    go_wp2_with fail
    refine bodyPost_ret (ret_tok rfl rfl (row3n w _ _ _ _ _ _ _ _)) rfl ?_
    exact ⟨rfl, ext3n w _ _ _ _ _⟩
/-- Decode of bytes that are no token's -/
theorem decode_none (w : World) (A : Option Addr) (n c : Nat) (ys : List Nat) (hl : ys.length = n) (hb : ∀ x ∈ ys, x < 256) (hr : Rd w A (vals .u8 ys)) (hnc : n ≤ c) (hn : n ≤ 4096) (h : ¬ IsTok ys) :
    Calls Tryz.prog 33 #[.slice A n c] w (RetE (.tuple #[tokZ, .int .i64 3]) w) := by
  by_cases hf : n < 16
  · exact decode_few w A n c hf
  · obtain ⟨b, off, y0, y1, y2, y3, rfl, c0, c1, c2, c3, e0, e1, e2, e3⟩ := heads hr (by omega)
    have b0 := hb y0 (List.mem_of_getElem? e0); have b1 := hb y1 (List.mem_of_getElem? e1); have b2 := hb y2 (List.mem_of_getElem? e2); have b3 := hb y3 (List.mem_of_getElem? e3)
    by_cases hc : y0 ≠ 83 ∨ y1 ≠ 71 ∨ 32 ≤ y2 ∨ n ≠ 4 + y3 + 12
    · exact decode_bad1 w b off n c y0 y1 y2 y3 (by omega) hn b0 b1 b2 b3 c0 c1 c2 c3 hc
    · obtain rfl : y0 = 83 := by omega
      obtain rfl : y1 = 71 := by omega
      refine decode_bad2 w b off n c y2 y3 ys hl hb hr hnc (by omega) b3 (by omega) c0 c1 c2 c3 ?_
      refine Classical.byContradiction fun hh => h ?_
      exact isTok_of ys y2 y3 _ hb (by omega) e0 e1 e2 e3 (by omega) b3 rfl (by omega) (by omega) (Classical.byContradiction fun hq => hh (.inr (.inr hq)))
end

section
open Go.RowKit
end

section
open Go.RowKit


theorem wordB_inj {k v v' : Nat} (h : wordB v k = wordB v' k) (hv : v < 256 ^ k) (hv' : v' < 256 ^ k) : v = v' := by
  have := congrArg numB h
  rw [numB_wordB, numB_wordB, Nat.mod_eq_of_lt hv, Nat.mod_eq_of_lt hv'] at this
  exact this
theorem tokB_inj {p p' s s' : Nat} {xs xs' : List Nat} (h : tokB p xs s = tokB p' xs' s') (h2 : s ≤ 4611686018427387903) (h2' : s' ≤ 4611686018427387903) : p = p' ∧ xs = xs' ∧ s = s' := by
  have e : ∀ p s (xs : List Nat), tokB p xs s = 83 :: 71 :: p :: xs.length :: (xs ++ (wordB s 8 ++ wordB (sumT (bodyT p xs s)) 4)) := by intro p s xs; simp [tokB, bodyT]
  rw [e p s xs, e p' s' xs'] at h
  simp only [List.cons.injEq, true_and] at h
  obtain ⟨h1, h3, h4⟩ := h
  obtain ⟨h5, h6⟩ := List.append_inj h4 h3
  obtain ⟨h7, _⟩ := List.append_inj h6 (by rw [wordB_len, wordB_len])
  exact ⟨h1, h5, wordB_inj h7 (Nat.lt_of_le_of_lt h2 (by decide)) (Nat.lt_of_le_of_lt h2' (by decide))⟩
theorem retBE_none {q : Int} {w w' : World} {e : Ending} (h : RetE (.tuple #[.slice none 0 0, .int .i64 q]) w e w') : RetBE [] q w e w' :=
  ⟨none, 0, h.1, World.ownsRow_nil _ _ _ _, h.2⟩
end

section
open Go.RowKit

/-- a call's value -/
abbrev callV (op p : Int) (A : Option Addr) (n c : Nat) (N : Int) : Value := .agg #[.int .u8 op, .int .i64 p, .slice A n c, .int .i64 N]
abbrev callZ : Value := callV 0 0 none 0 0 0
/-- the bytes of a right call -/
def reqB (op p : Nat) (xs : List Nat) (N : Nat) : List Nat :=
  if op = 3 then 3 :: tokB p xs N else if op = 5 ∨ op = 6 then [op] else op :: p :: xs.length :: (xs ++ if op = 1 then wordB N 8 else [])
/-- a right call -/
def RightC (op p : Nat) (xs : List Nat) (N : Nat) : Prop :=
  1 ≤ op ∧ op ≤ 6 ∧ (op < 5 → p < 32 ∧ xs.length ≤ 255) ∧ (op = 1 → N ≤ 4611686018427387903) ∧ (op = 3 → 1 ≤ N ∧ N ≤ 4611686018427387903)
/-- a right call, fields that its form lacks at nought -/
def NormC (op p : Nat) (xs : List Nat) (N : Nat) : Prop :=
  RightC op p xs N ∧ (∀ x ∈ xs, x < 256) ∧ (5 ≤ op → p = 0 ∧ xs = [] ∧ N = 0) ∧ (op = 2 ∨ op = 4 → N = 0)
/-- bytes of a right call -/
def IsReq (ys : List Nat) : Prop := ∃ op p xs N, NormC op p xs N ∧ ys = reqB op p xs N
theorem reqB_lt {op p N : Nat} {xs : List Nat} (h : RightC op p xs N) (hb : ∀ x ∈ xs, x < 256) : ∀ x ∈ reqB op p xs N, x < 256 := by
  obtain ⟨h1, h2, h3, _, _⟩ := h
  intro x hx
  unfold reqB at hx
  split at hx
  · rename_i ho
    obtain ⟨hp, hl⟩ := h3 (by omega)
    rcases List.mem_cons.1 hx with rfl | hx
    · omega
    · exact tokB_lt p N xs (by omega) (by omega) hb x hx
  · split at hx
    · rw [List.mem_singleton.1 hx]; omega
    · obtain ⟨hp, hl⟩ := h3 (by omega)
      simp only [List.mem_cons, List.mem_append] at hx
      rcases hx with rfl | rfl | rfl | hx | hx
      · omega
      · omega
      · omega
      · exact hb x hx
      · split at hx
        · exact wordB_lt _ _ x hx
        · cases hx
/-- what Request answers -/
def ReqIs (op : Nat) (p : Int) (xs : List Nat) (N : Int) (q : Int) (L : List Nat) : Prop :=
  ((q == 0) = false ∧ L = [] ∧ ¬ ∃ P M : Nat, (op < 5 → p = (P : Int)) ∧ (op = 1 ∨ op = 3 → N = (M : Int)) ∧ RightC op P xs M) ∨ (q = 0 ∧ ∃ P M : Nat, (op < 5 → p = (P : Int)) ∧ (op = 1 ∨ op = 3 → N = (M : Int)) ∧ RightC op P xs M ∧ L = reqB op P xs M)
theorem not_right {op : Nat} {p : Int} {xs : List Nat} {N : Int} (h : op < 1 ∨ 6 < op ∨ (op < 5 ∧ (p < 0 ∨ 32 ≤ p ∨ 255 < xs.length)) ∨ (op = 1 ∧ (N < 0 ∨ 4611686018427387903 < N)) ∨ (op = 3 ∧ (N < 1 ∨ 4611686018427387903 < N))) :
    ¬ ∃ P M : Nat, (op < 5 → p = (P : Int)) ∧ (op = 1 ∨ op = 3 → N = (M : Int)) ∧ RightC op P xs M := by
  rintro ⟨P, M, h1, h2, h3, h4, h5, h6, h7⟩
  rcases h with h | h | ⟨h, h'⟩ | ⟨rfl, h⟩ | ⟨rfl, h⟩
  · omega
  · omega
  · have := h1 h; have := h5 h; omega
  · have := h2 (.inl rfl); have := h6 rfl; omega
  · have := h2 (.inr rfl); have := h7 rfl; omega
end
end Go.Proofs.YtloidkmphigbdaaGreat
