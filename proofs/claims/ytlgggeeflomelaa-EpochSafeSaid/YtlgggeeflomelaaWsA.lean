/- EpochSafe: a worker's step, told (spigotlaw13's watch.step). -/
import Derived.Test.YtlgggeeflomelaaWt
import Derived.Test.YtlgggeeflomelaaEpS
import Derived.BigRegion
import Derived.BigQuiet
namespace Go.Proofs.Ytlgggeeflomelaa
open Go.RowKit

/-- behind a worker's step -/
def WsPost (w0 w : World) (F : Nat → Prop) (gx tb k n : Nat) (s : ESt) (tm : Nat) (own : List Nat) (vg vk : Value) (e : Ending) (w' : World) : Prop :=
  e = .returned (.bool true) ∧ ∃ F' t', EpIn w0 F' gx 4 (k + 1) s w' ∧ WtM w0.heap.size tb t' n vg vk w' ∧ SafeR s t' own 4 ∧ t'.time ≤ tm + 1 ∧ GB w w' (fun i => F i ∨ WtB tb vg vk i) ∧ (∀ i, F' i → F i ∨ w.heap.size ≤ i)
theorem own_max {w : World} {base n : Nat} {v : Value} {xs : List Value} (h : w.ownsRow base 3 1 v n xs) : n ≤ maxLen := by
  rcases h.2 with ⟨_, e⟩ | ⟨g, cap, cur, _, _, _, h1, h2, _⟩
  · omega
  · exact Nat.le_trans h1 h2
theorem own_elemI {w : World} {base n : Nat} {v : Value} {xs : List Int} (h : w.ownsRow base 3 1 v n (ivals xs)) {m : Nat} {x : Int} (hx : xs[m]? = some x) :
    ∃ g c, v = .slice (some ⟨g, 0, none⟩) n c ∧ n ≤ c ∧ w.cell? ⟨g, m, none⟩ = some (.int .i64 x) ∧ w.frozen? ⟨g, m, none⟩ = false := by
  have hl := h.1
  rw [ivals_len] at hl
  have hm := (List.getElem?_eq_some_iff.1 hx).1
  rcases h.2 with ⟨_, e⟩ | ⟨g, cap, cur, rfl, _, hg, hnc, _⟩
  · omega
  · refine ⟨g, cap, rfl, hnc, ?_, blk_frozen hg m⟩
    rw [World.ownsRow.cellAt h m (by omega)]
    simp [ivals, hx]
theorem pinned_time (t : Wt) (d : Nat) : (t.pinned d).time = t.time := by unfold Wt.pinned; split <;> rfl
theorem take_next {tk : List Nat} {ths : List Int} {j m : Nat} (hj : ths[j]? = some (m : Int)) : takeAll tk (ths.take (j + 1)) = (takeAll tk (ths.take j)).set m ((takeAll tk (ths.take j)).getD m 0 + 1) := by
  rw [take_succ_of hj, takeAll_snoc]
  simp
theorem take_fresh {tk : List Nat} {ths : List Int} {j m : Nat} (hn : ths.Nodup) (hp : ∀ n ∈ ths, ∃ m : Nat, n = (m : Int)) (hj : ths[j]? = some (m : Int)) : (takeAll tk (ths.take j)).getD m 0 = tk.getD m 0 := by
  refine takeAll_not _ _ _ fun n hn' e => ?_
  obtain ⟨i, hi, ei⟩ := List.getElem_of_mem hn'
  have hij : i < j := by rw [List.length_take] at hi; omega
  obtain ⟨hjl, ej⟩ := List.getElem?_eq_some_iff.1 hj
  obtain ⟨m', hm'⟩ := hp n (List.mem_of_mem_take hn')
  have e2 : n = (m : Int) := by omega
  rw [List.getElem_take] at ei
  have := (List.getElem_inj (h₀ := by omega) (h₁ := hjl) hn).1 (ei.trans (e2.trans ej.symm))
  omega
theorem begin_ops (t : Wt) (d : Nat) : (t.begin d).ops = t.ops := by unfold Wt.begin; split <;> rfl
theorem begin_time (t : Wt) (d : Nat) : (t.begin d).time = t.time + 1 := by unfold Wt.begin; split <;> rfl
set_option maxHeartbeats 4000000 in
set_option maxRecDepth 100000 in
theorem wstep_ok (w0 w : World) (F : Nat → Prop) (gx tb k d b n : Nat) (s : ESt) (t : Wt) (own : List Nat) (vg vk : Value) (hE : EpIn w0 F gx 4 k s w) (hM : WtM w0.heap.size tb t n vg vk w) (hR : SafeR s t own b) (hd : d < 4) (hb : b = 4 ∨ b = d)
    (hdis : ∀ i, WtB tb vg vk i → ¬ F i) (hk : k ≤ 50000) (htm : t.time ≤ 50000) :
    Calls Try.prog 31 #[.pointer (some ⟨tb, 0, none⟩), .pointer (some ⟨gx, 0, none⟩), .int .i64 (d : Int)] w (WsPost w0 w F gx tb k n (eStep 4 s d).1 t.time own vg vk) := by
  have PD := Lib.hid (ein_pend w0 w F gx 4 k d s hE hd)
  by_cases hs : (s.wk d).call = .idle
  · rw [(idle_iff _).2 hs] at PD
    have hb4 : b = 4 := by
      rcases hb with hb | hb
      · exact hb
      · rcases hR.2.2.2 with h | ⟨_, th, hth⟩
        · exact h
        · rw [hb, hs] at hth; cases hth
    subst hb4
    have hst : (eStep 4 s d).1 = s := by unfold eStep; rw [hs]
    have FIN := Lib.hid (show WsPost w0 w F gx tb k n (eStep 4 s d).1 t.time own vg vk (.returned (.bool true)) w by
      rw [hst]
      exact ⟨rfl, F, t, hE.more (by omega), hM, hR, by omega, GB.refl w _, fun i hi => .inl hi⟩)
    clear hE hM hR hs hst
    go_enter Try.func31, Try.ntmps31
    go_wp2_with fail
    refine PD.out.mono ?_
    rintro e w3 ⟨rfl, rfl⟩
    go_wp2_with fail
    go_ret
    exact FIN.out
  · have hni : isIdle (s.wk d).call = false := by
      cases hi : isIdle (s.wk d).call with
      | false => rfl
      | true => exact absurd ((idle_iff _).1 hi) hs
    rw [hni] at PD
    obtain ⟨T, hT⟩ : ∃ T, t.time + 1 = T := ⟨_, rfl⟩
    have hwT : IntKind.i64.wrap ((t.time : Int) + 1) = (T : Int) := by rw [IntKind.wrap_i64]; omega
    have MB := mid_of_safe hR hd hs hb
    have SS := safe_step MB hE.inv.1 hd hs
    have hep := estep_ep 4 d s
    have hepb := hE.inv.2.1.1
    have SP0 := fun (u : World) (hu : EpIn w0 F gx 4 k s u) => ein_step w0 u F gx 4 k d s hu hd hs (by omega)
    have EP0 := fun (u : World) (hu : EpIn w0 F gx 4 k s u) => ein_epoch w0 u F gx 4 k s hu (by omega)
    obtain ⟨P, hP⟩ : ∃ P, eStep 4 s d = P := ⟨_, rfl⟩
    rw [hP] at SS hep SP0 ⊢
    obtain ⟨s2, ⟨dn, er, nu, ths⟩⟩ := P
    have HSS := Lib.hid SS; have HEPS := Lib.hid hep; have SP := Lib.hid SP0; have EP := Lib.hid EP0; have HEB := Lib.hid hepb
    clear SS hep SP0 EP0 hP hepb
    have HM := Lib.hid hM; have HE := Lib.hid hE; have HS := Lib.hid hs
    obtain ⟨x, hx⟩ : ∃ x, t.ops.getD d 0 = x := ⟨_, rfl⟩
    have HX := Lib.hid (show x = opOf (s.wk d).call from hx.symm.trans ((hR.2.1 d hd).1.1 hs))
    obtain ⟨y, hy⟩ : ∃ y, t.begun.getD d 0 = y := ⟨_, rfl⟩
    have c14 := hM.c14; have f14 := hM.frz 14
    have M1 := Lib.hid (show WtM w0.heap.size tb { t with time := T } n vg vk (w.setCell ⟨tb, 14, none⟩ (.int .i64 (T : Int))) from hM.putTime T)
    have E1 := Lib.hid (hE.gb (WtM.gbp (vg := vg) (vk := vk) 14 (.int .i64 (T : Int))) (fun i hi e => hdis i e hi) (fun i e => hM.bge i e))
    have G1 := Lib.hid (show GB w (w.setCell ⟨tb, 14, none⟩ (.int .i64 (T : Int))) (WtB tb vg vk) from WtM.gbp 14 _)
    obtain ⟨W1, hW1⟩ : ∃ W1, w.setCell ⟨tb, 14, none⟩ (.int .i64 (T : Int)) = W1 := ⟨_, rfl⟩
    rw [hW1] at M1 E1 G1
    have o1 := M1.out.cOps hd; have b1 := M1.out.cBegun hd; have q14 := M1.out.c14; have fb1 := M1.out.frz (4 + d); have fp1 := M1.out.frz (8 + d)
    dsimp only at o1 b1 q14
    rw [hx] at o1
    rw [hy] at b1
    have HT := Lib.hid hT
    have HY := Lib.hid hy
    have HXX := Lib.hid hx
    have MBh := Lib.hid MB
    have HR := Lib.hid hR
    clear hE hM hR hs hni hT MB hx hy
    go_enter Try.func31, Try.ntmps31
    go_wp2_with fail
    refine PD.out.mono ?_
    rintro e w3 ⟨rfl, rfl⟩
    go_upto_if 30 with fail
    (try rw [hW1])
    go_cut [] (fun wd => WtM w0.heap.size tb (t.begin d) n vg vk wd ∧ GB w wd (WtB tb vg vk))
    case first =>
      by_cases h0 : y = 0
      · have q0 : ((y : Int) == 0) = true := by rw [beq_iff_eq]; omega
        have M2 := Lib.hid (show WtM w0.heap.size tb { t with time := T, begun := t.begun.set d T } n vg vk (W1.setCell ⟨tb, 4 + d, none⟩ (.int .i64 (T : Int))).drew from (M1.out.putBegun hd T).ext (Ext.refl _).drew)
        have G2 := Lib.hid (show GB w (W1.setCell ⟨tb, 4 + d, none⟩ (.int .i64 (T : Int))).drew (WtB tb vg vk) from (G1.out.set tb (4 + d) _ (.inl (.inl rfl))).drew)
        obtain ⟨W2, hW2⟩ : ∃ W2, (W1.setCell ⟨tb, 4 + d, none⟩ (.int .i64 (T : Int))).drew = W2 := ⟨_, rfl⟩
        rw [hW2] at M2 G2
        have hBE := Lib.hid (show t.begin d = { t with time := T, begun := t.begun.set d T, pins := if x = 2 then t.pins.set d 0 else t.pins, given := if x = 3 then t.given.set (t.given.length - 1) T else t.given } by
          unfold Wt.begin
          rw [if_pos (HY.out.trans h0), HT.out, HXX.out])
        clear h0
        go_upto_region 5 with fail
        go_region
        all_goals
          (try rw [hW2])
          have o2 := M2.out.cOps hd; have q2 := M2.out.c14; have r12 := M2.out.c12; have fp2 := M2.out.frz (8 + d); have p2 := M2.out.cPins hd
          dsimp only at o2 q2
          rw [HXX.out] at o2
          by_cases hx2 : x = 2
          · have q1 : ((x : Int) == 2) = true := by rw [beq_iff_eq]; omega
            have q3 : ((x : Int) == 3) = false := by rw [beq_eq_false_iff_ne]; omega
            have M3 := Lib.hid (M2.out.putPins hd 0)
            have o3 : (W2.setCell ⟨tb, 8 + d, none⟩ (.int .i64 0)).cell? ⟨tb, d, none⟩ = some (.int .u8 ((t.ops.getD d 0 : Nat) : Int)) := M3.out.cOps hd
            rw [HXX.out] at o3
            have HX2 := Lib.hid hx2
            clear hx2
            go_wp2_with fail
            go_meet
            refine ⟨?_, G2.out.set tb (8 + d) _ (.inl (.inl rfl))⟩
            rw [hBE.out, if_pos HX2.out, if_neg (fun e => by have := HX2.out; omega)]
            exact M3.out
          · have q1 : ((x : Int) == 2) = false := by rw [beq_eq_false_iff_ne]; omega
            by_cases hx3 : x = 3
            · have q3 : ((x : Int) == 3) = true := by rw [beq_iff_eq]; omega
              obtain ⟨th, hth⟩ := op3 (HX.out.symm.trans hx3)
              have hlen : 0 < n := by
                have h9 := ((MBh.out.2.2.2.1 3 th hth).2 rfl).1.2.2.1
                have h8 : (t.begin d).given.length = t.given.length := by rw [hBE.out, if_pos hx3]; simp
                rw [h8, HM.out.lg] at h9
                exact h9
              obtain ⟨m, hm⟩ : ∃ m, n - 1 = m := ⟨_, rfl⟩
              obtain ⟨g, c, rfl, hnc, cg, fg⟩ := own_elem M2.out.og (m := m) (by omega)
              dsimp only at cg
              have hnl : (n : Int) ≤ 9223372036854775807 := by have := own_max M2.out.og; unfold maxLen at this; omega
              have hwn : IntKind.i64.wrap ((n : Int) - 1) = (m : Int) := by rw [IntKind.wrap_i64]; omega
              have hm0 : (0 : Int) ≤ (m : Int) := by omega
              have hmn : (m : Int) < (n : Int) := by omega
              have M3 := Lib.hid (M2.out.putGiven m T)
              have HX3 := Lib.hid hx3; have HMM := Lib.hid hm
              clear hx3 hx2 hm hth hlen hnc
              go_upto_region 9 with fail
              go_region
              all_goals
                go_wp2_with fail
                go_meet
                refine ⟨?_, (G2.out.set g m _ (.inl (.inr (.inl rfl)))).drew⟩
                rw [hBE.out, if_neg (fun e => by have := HX3.out; omega), if_pos HX3.out]
                rw [show t.given.length - 1 = m by rw [HM.out.lg]; exact HMM.out]
                exact M3.out.ext (Ext.refl _).drew
            · have q3 : ((x : Int) == 3) = false := by rw [beq_eq_false_iff_ne]; omega
              go_wp2_with fail
              go_meet
              refine ⟨?_, G2.out⟩
              rw [hBE.out, if_neg hx2, if_neg hx3]
              exact M2.out
      · have q0 : ((y : Int) == 0) = false := by rw [beq_eq_false_iff_ne]; omega
        go_wp2_with fail
        go_meet
        refine ⟨?_, G1.out⟩
        have hBE : t.begin d = { t with time := T } := by
          unfold Wt.begin
          rw [if_neg (fun e => h0 (HY.out.symm.trans e)), HT.out]
        rw [hBE]
        exact M1.out
    case rest =>
      obtain ⟨hM2, hG2⟩ := hcut
      have hops1 : (t.begin d).ops.getD d 0 = x := by rw [begin_ops]; exact HXX.out
      have htm1 : (t.begin d).time = T := by rw [begin_time]; exact HT.out
      have E2 := HE.out.gb hG2 (fun i hi e => hdis i e hi) (fun i e => HM.out.bge i e)
      have HSS1 := HSS.out
      obtain ⟨t1, ht1⟩ : ∃ t1, t.begin d = t1 := ⟨_, rfl⟩
      rw [ht1] at hM2 hops1 htm1 HSS1
      have HM2 := Lib.hid hM2; have HG2 := Lib.hid hG2; have HE2 := Lib.hid E2; have HS1 := Lib.hid HSS1; have HO1 := Lib.hid hops1; have HT1 := Lib.hid htm1
      have EPw := Lib.hid (EP.out wc E2)
      have SPw := Lib.hid (SP.out wc E2)
      obtain ⟨ep, hep⟩ : ∃ ep, s.ep = ep := ⟨_, rfl⟩
      obtain ⟨ep2, hep2⟩ : ∃ ep2, s2.ep = ep2 := ⟨_, rfl⟩
      have hes : ep2 = ep ∨ ep2 = ep + 1 := by rw [← hep, ← hep2]; exact HEPS.out
      have heb : ep ≤ 50000 := by have := HEB.out; omega
      rw [hep] at EPw
      have HEP2 := Lib.hid hep2
      clear hM2 hG2 E2 HSS1 hops1 htm1 ht1 hep hep2 c14 f14 o1 b1 q14 fb1 fp1 hW1
      go_wp2_with fail
      refine EPw.out.mono ?_
      rintro e w5 ⟨rfl, rfl⟩
      go_wp2_with fail
      refine SPw.out.mono ?_
      rintro e w7 ⟨A7, m7, q7, F7, rfl, i7, g7, f7, t7⟩
      obtain ⟨V, hV⟩ : ∃ V, w7.alloc (.cells #[.bool dn, .int .i64 (er : Int), .int .i64 (nu : Int), .slice A7 m7 q7] 36) = V := ⟨_, rfl⟩
      have xV : Ext w7 V := by rw [← hV]; exact (Ext.refl w7).alloc _
      have KV := Lib.hid (show V.heap[w7.heap.size]? = some (.cells #[.bool dn, .int .i64 (er : Int), .int .i64 (nu : Int), .slice A7 m7 q7] 36 (0, 0)) by rw [← hV]; exact blk_new w7 _)
      have IV := Lib.hid (i7.ext xV)
      have EPV0 := ein_epoch w0 V F7 gx 4 (k + 1) s2 IV.out (by omega)
      rw [HEP2.out] at EPV0
      have EPV := Lib.hid EPV0
      have MV := Lib.hid ((HM2.out.gb g7 hdis).ext xV)
      have GV := Lib.hid (show GB w V (fun i => F i ∨ WtB tb vg vk i) from ((HG2.out.more (fun i _ hi => .inr hi)).trans g7 (fun i hi => .inl (.inl hi))).ext xV)
      have FV := Lib.hid (show ∀ i, F7 i → F i ∨ w.heap.size ≤ i from fun i hi => (f7 i hi).imp id (fun e => Nat.le_trans HG2.out.size e))
      have TV := Lib.hid (own_ext t7.1 xV)
      have DV := Lib.hid (show ∀ i, WtB tb vg vk i → ¬ F7 i from fun i hi e => (f7 i e).elim (hdis i hi) (fun e => by have := HM2.out.lt i hi; omega))
      have hw27 : wc.heap.size ≤ w7.heap.size := g7.size
      have r0 : V.cell? ⟨w7.heap.size, 0, none⟩ = some (.bool dn) := blk_cell KV.out 0
      have r3 : V.cell? ⟨w7.heap.size, 3, none⟩ = some (.slice A7 m7 q7) := blk_cell KV.out 3
      have u1 : decide ((ep2 : Int) < (ep : Int)) = false := decide_eq_false (by omega)
      have u2 : IntKind.i64.wrap ((ep : Int) + 1) = (ep : Int) + 1 := by rw [IntKind.wrap_i64]; omega
      have u3 : decide ((ep : Int) + 1 < (ep2 : Int)) = false := decide_eq_false (by omega)
      have hmt : m7 = ths.length := by
        have h9 : ths.length = m7 * 1 := by have h8 := t7.1.1; rw [ivals_len] at h8; exact h8
        omega
      have HMT := Lib.hid hmt
      clear i7 g7 f7 t7 EPV0 hmt
      go_wp2_with fail
      (try rw [hV])
      clear hV
      refine EPV.out.mono ?_
      rintro e w8 ⟨rfl, rfl⟩
      go_wp2_with fail
      refine EPV.out.mono ?_
      rintro e w9 ⟨rfl, rfl⟩
      cases dn with
      | false =>
        go_wp2_with fail
        go_ret
        have hR1 : SafeR s2 t1 own 4 := HS1.out.1
        exact ⟨rfl, F7, t1, IV.out, MV.out, hR1, by rw [HT1.out]; have := HT.out; omega, GV.out, FV.out⟩
      | true =>
        have o1 := MV.out.cOps hd; have q14 := MV.out.c14; have fp1 := MV.out.frz (8 + d); have p1 := MV.out.cPins hd
        rw [HO1.out] at o1
        rw [HT1.out] at q14
        obtain ⟨t2, ht2⟩ : ∃ t2, t1.pinned d = t2 := ⟨_, rfl⟩
        have hrV : ¬ WtB tb vg vk w7.heap.size := fun e => by have := HM2.out.lt _ e; omega
        go_upto_if 106 with fail
        go_cut [] (fun wd => WtM w0.heap.size tb t2 n vg vk wd ∧ GB V wd (WtB tb vg vk))
        case first =>
          by_cases hx1 : x = 1
          · have z1 : ((x : Int) == 1) = true := by rw [beq_iff_eq]; omega
            have MP := Lib.hid (show WtM w0.heap.size tb t2 n vg vk (V.setCell ⟨tb, 8 + d, none⟩ (.int .i64 (T : Int))).drew from by
              rw [← ht2]
              unfold Wt.pinned
              rw [if_pos (HO1.out.trans hx1)]
              have h9 := (MV.out.putPins hd t1.time).ext (Ext.refl _).drew
              rw [HT1.out] at h9 ⊢
              exact h9)
            clear hx1
            go_upto_region 17 with fail
            go_region
            all_goals
              go_wp2_with fail
              go_meet
              exact ⟨MP.out, ((GB.refl V _).set tb (8 + d) _ (.inl (.inl rfl))).drew⟩
          · have z1 : ((x : Int) == 1) = false := by rw [beq_eq_false_iff_ne]; omega
            have MP := Lib.hid (show WtM w0.heap.size tb t2 n vg vk V from by
              rw [← ht2]
              unfold Wt.pinned
              rw [if_neg (fun e => hx1 (HO1.out.symm.trans e))]
              exact MV.out)
            clear hx1
            go_wp2_with fail
            go_meet
            exact ⟨MP.out, GB.refl V _⟩
        case rest =>
          obtain ⟨hM3, hG3⟩ := hcut
          have hE3 := IV.out.gb hG3 (fun i hi e => DV.out i e hi) (fun i e => HM.out.bge i e)
          have KV3 := Lib.hid (hG3.blk KV.out hrV)
          have s3 : wc.cell? ⟨w7.heap.size, 3, none⟩ = some (.slice A7 m7 q7) := blk_cell KV3.out 3
          have hA7 : ∀ i, (Value.slice A7 m7 q7).ownBlock = some i → ¬ WtB tb vg vk i := fun i hi e => by
            have h9 := (TV.out.lt i hi).1
            have h8 := HM2.out.lt i e
            omega
          have T3 := Lib.hid (hG3.own TV.out hA7)
          have hgl : t2.given = t1.given ∧ t2.taken = t1.taken := by rw [← ht2]; unfold Wt.pinned; split <;> exact ⟨rfl, rfl⟩
          have HM3 := Lib.hid hM3; have HE3 := Lib.hid hE3; have HA7 := Lib.hid hA7; have HGL := Lib.hid hgl; have HRV := Lib.hid hrV
          have GW := Lib.hid (show GB w wc (fun i => F i ∨ WtB tb vg vk i) from GV.out.trans hG3 (fun i e => .inl (.inr e)))
          have hFIN : Hid (SafeR s2 { t2 with taken := takeAll t2.taken ths } own 4) := Lib.hid (by
            have h9 := HS1.out.1
            unfold Wt.fin at h9
            rw [if_pos rfl, ht2, ← hgl.2] at h9
            exact h9)
          have hth : Hid (ThsOk t2 ths) := Lib.hid (by
            obtain ⟨h1, h2, h3, h4⟩ := HS1.out
            by_cases hx1 : x = 1
            · rw [show ths = [] from h4 trivial (HO1.out.trans hx1)]
              exact thsOk_nil t2
            · rw [← ht2]
              unfold Wt.pinned
              rw [if_neg (fun e => hx1 (HO1.out.symm.trans e))]
              exact h2)
          have HTM : Hid (t2.time = t.time + 1) := Lib.hid (by rw [← ht2, pinned_time, HT1.out]; exact HT.out.symm)
          clear hM3 hG3 hE3 hA7 hgl hrV o1 q14 fp1 p1 r0 r3 u1 u2 u3 ht2
          go_wp2_with fail
          go_loopw [119] (fun i wr => ∃ j : Nat, j ≤ m7 ∧ i = .int .i64 (j : Int) ∧ WtM w0.heap.size tb { t2 with taken := takeAll t2.taken (ths.take j) } n vg vk wr ∧ GB wc wr (WtB tb vg vk)) (fun i _ => m7 - (intOf i).toNat)
          case atStart => exact ⟨0, Nat.zero_le _, rfl, HM3.out, GB.refl wc _⟩
          case round =>
            obtain ⟨j, hj, rfl, hMr, hGr⟩ := hrel
            by_cases hlt : j < m7
            · obtain ⟨nn, hnn⟩ : ∃ nn, ths[j]? = some nn := ⟨_, List.getElem?_eq_getElem (by rw [← HMT.out]; exact hlt)⟩
              obtain ⟨m, rfl, hmg, hm0, hmp⟩ := hth.out.2 nn (List.mem_of_getElem? hnn)
              have hmn : m < n := by rw [← HM3.out.lg]; exact hmg
              obtain ⟨g7, c7, hv7, hnc7, ct7, ft7⟩ := own_elemI (hGr.own T3.out HA7.out) hnn
              injection hv7 with hv7 _ hv7'
              subst hv7 hv7'
              have hfr := (take_fresh (tk := t2.taken) hth.out.1 (fun n hn => (hth.out.2 n hn).imp fun m h => h.1) hnn).trans hm0
              obtain ⟨gg, cg, rfl, hncg, xg, fg⟩ := own_elem hMr.og hmn
              obtain ⟨gk, ck, rfl, hnck, xk, fk⟩ := own_elem hMr.ok hmn
              dsimp only at xg xk
              rw [hfr] at xk
              have xk' : wr.cell? ⟨gk, m, none⟩ = some (.int .i64 0) := xk
              have y12 := hMr.c12; have y13 := hMr.c13
              have M4 := Lib.hid (show WtM w0.heap.size tb { t2 with taken := takeAll t2.taken (ths.take (j + 1)) } n _ _ (wr.setCell ⟨gk, m, none⟩ (.int .i64 1)) by
                have h9 := hMr.putTaken m 1
                rw [take_next hnn, hfr]
                exact h9)
              have G4 := Lib.hid (show GB wc (wr.setCell ⟨gk, m, none⟩ (.int .i64 1)) _ from hGr.set gk m (.int .i64 1) (.inl (.inr (.inr rfl))))
              obtain ⟨gv, hgv⟩ : ∃ gv, t2.given.getD m 0 = gv := ⟨_, rfl⟩
              rw [hgv] at xg hmp
              obtain ⟨W4, hW4⟩ : ∃ W4, wr.setCell ⟨gk, m, none⟩ (.int .i64 1) = W4 := ⟨_, rfl⟩
              rw [hW4] at M4 G4
              have hm79 : m7 ≤ 9223372036854775807 := by have := own_max TV.out; unfold maxLen at this; omega
              have HMP := Lib.hid hmp; have HGV := Lib.hid hgv; have HNN := Lib.hid hnn
              have hj0 : (0 : Int) ≤ (j : Int) := by omega
              have hjm : (j : Int) < (m7 : Int) := by omega
              have hmi0 : (0 : Int) ≤ (m : Int) := by omega
              have hmin : (m : Int) < (n : Int) := by omega
              have v1 : decide ((m : Int) < 0) = false := decide_eq_false (by omega)
              have v2 : decide ((n : Int) ≤ (m : Int)) = false := decide_eq_false (by omega)
              have HLT := Lib.hid hlt
              clear hnn hmg hm0 hmp hmn hfr xk hMr hGr hgv hlt hj
              go_wp2_with fail
              (try rw [hW4])
              clear hW4
              go_loopw [153] (fun i wx => ∃ i' : Nat, i' ≤ 4 ∧ i = .int .i64 (i' : Int) ∧ Ext W4 wx) (fun i _ => 4 - (intOf i).toNat)
              case atStart => exact ⟨0, Nat.zero_le _, rfl, Ext.refl W4⟩
              case round =>
                obtain ⟨i', hi', rfl, hx4⟩ := hrel
                have M5 := Lib.hid (M4.out.ext hx4)
                have G5 := Lib.hid (G4.out.ext hx4)
                by_cases hlt4 : i' < 4
                · have p5 := M5.out.cPins hlt4; have z12 := M5.out.c12
                  obtain ⟨g9, c9, hv9, _, xg9, _⟩ := own_elem M5.out.og (m := m) (by omega)
                  injection hv9 with hv9 _ hv9'
                  injection hv9 with hv9
                  injection hv9 with hv9
                  subst hv9 hv9'
                  dsimp only at p5 xg9
                  rw [HGV.out] at xg9
                  have hmp := HMP.out i' hlt4
                  obtain ⟨pv, hpv⟩ : ∃ pv, t2.pins.getD i' 0 = pv := ⟨_, rfl⟩
                  rw [hpv] at p5 hmp
                  have hi0 : (0 : Int) ≤ (i' : Int) := by omega
                  have hi4 : (i' : Int) < 4 := by omega
                  have X4 := Lib.hid hx4
                  clear hpv hx4 hi'
                  rcases Nat.eq_zero_or_pos pv with hp0 | hp0
                  · have p6 : wr.cell? ⟨tb, 8 + i', none⟩ = some (.int .i64 0) := by rw [p5, hp0]; rfl
                    clear hp0 hmp p5
                    go_wp2_with fail
                    go_quiet (fail)
                    go_wp2_with fail
                    go_roundw
                    case rel => exact ⟨i' + 1, hlt4, by go_num, X4.out.trans ((Ext.refl wr).drewN _)⟩
                    case measure => simp [intOf]; omega
                  · have a1 : decide ((0 : Int) < (pv : Int)) = true := decide_eq_true (by omega)
                    have a1' : decide (0 < pv) = true := decide_eq_true hp0
                    have a2 : decide ((pv : Int) < (gv : Int)) = false := decide_eq_false (by omega)
                    have a2' : decide (pv < gv) = false := decide_eq_false (by omega)
                    clear hp0 hmp
                    go_wp2_with fail
                    go_quiet (fail)
                    go_wp2_with fail
                    go_roundw
                    case rel => exact ⟨i' + 1, hlt4, by go_num, X4.out.trans ((Ext.refl wr).drewN _)⟩
                    case measure => simp [intOf]; omega
                · clear hx4
                  go_wp2_with fail
                  go_roundw
                  case rel => exact ⟨j + 1, HLT.out, by go_num, M5.out, G5.out⟩
                  case measure => simp [intOf]; have := HLT.out; omega
            · have FINj : Hid (WsPost w0 w F gx tb k n s2 t.time own vg vk (.returned (.bool true)) wr) := Lib.hid (by
                have hjm : j = ths.length := by have := HMT.out; omega
                rw [hjm, List.take_length] at hMr
                refine ⟨rfl, F7, _, HE3.out.gb hGr (fun i hi e => DV.out i e hi) (fun i e => HM.out.bge i e), hMr, hFIN.out, ?_, GW.out.trans hGr (fun i e => .inl (.inr e)), FV.out⟩
                show t2.time ≤ t.time + 1
                rw [HTM.out]
                exact Nat.le_refl _)
              clear hMr hGr
              go_wp2_with fail
              go_ret
              exact FINj.out
end Go.Proofs.Ytlgggeeflomelaa
