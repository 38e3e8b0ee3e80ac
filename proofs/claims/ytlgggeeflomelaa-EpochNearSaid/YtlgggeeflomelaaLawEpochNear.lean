/- EpochNear answers true. -/
import Derived.Test.YtlgggeeflomelaaEpS
import Derived.Test.YtlgggeeflomelaaEpPick
import Derived.Test.YtlgggeeflomelaaEpNear
import Derived.Test.YtlgggeeflomelaaFrame
namespace Go.Proofs.Ytlgggeeflomelaa
open Go.RowKit

/-- the two rows beside the Epochs -/
def NearM (w0 : World) (F : Nat → Prop) (gx ob pb k : Nat) (s : ESt) (os : List Nat) (ps : List Int) (w : World) : Prop :=
  EpIn w0 F gx 4 k s w ∧ ¬ F ob ∧ ¬ F pb ∧ w0.heap.size ≤ ob ∧ w0.heap.size ≤ pb ∧ ob ≠ pb ∧ w.heap[ob]? = some (.cells (vals .u8 os).toArray 40 (0, 0)) ∧ w.heap[pb]? = some (.cells (ivals ps).toArray 41 (0, 0)) ∧ NearR s os ps
/-- what EpochNear keeps from round to round: the ops' row, the pins' row -/
def NearAt (w0 : World) (gx ob pb k : Nat) (w : World) : Prop := ∃ F s os ps, NearM w0 F gx ob pb k s os ps w
theorem NearM.ext {w0 w w' : World} {F : Nat → Prop} {gx ob pb k : Nat} {s : ESt} {os : List Nat} {ps : List Int} (h : NearM w0 F gx ob pb k s os ps w) (x : Ext w w') : NearM w0 F gx ob pb k s os ps w' := by
  obtain ⟨h1, h2, h3, h4, h5, h6, h7, h8, h9⟩ := h
  exact ⟨h1.ext x, h2, h3, h4, h5, h6, blk_ext h7 x, blk_ext h8 x, h9⟩
theorem NearAt.ext {w0 w w' : World} {gx ob pb k : Nat} (h : NearAt w0 gx ob pb k w) (x : Ext w w') : NearAt w0 gx ob pb k w' := by
  obtain ⟨F, s, os, ps, h⟩ := h
  exact ⟨F, s, os, ps, h.ext x⟩
theorem NearM.out {w0 w : World} {F : Nat → Prop} {gx ob pb k : Nat} {s : ESt} {os : List Nat} {ps : List Int} (h : NearM w0 F gx ob pb k s os ps w) : Ext w0 w := h.1.out
theorem NearAt.out {w0 w : World} {gx ob pb k : Nat} (h : NearAt w0 gx ob pb k w) : Ext w0 w := by
  obtain ⟨F, s, os, ps, h⟩ := h
  exact h.out
theorem getD_get {α : Type} {l : List α} {i : Nat} {d : α} (h : i < l.length) : l[i]? = some (l.getD i d) := by simp [h]
/-- an element of each row -/
theorem NearM.cells {w0 w : World} {F : Nat → Prop} {gx ob pb k : Nat} {s : ESt} {os : List Nat} {ps : List Int} (h : NearM w0 F gx ob pb k s os ps w) {d : Nat} (hd : d < 4) :
    w.cell? ⟨ob, d, none⟩ = some (.int .u8 ((os.getD d 0 : Nat) : Int)) ∧ w.cell? ⟨pb, d, none⟩ = some (.int .i64 (ps.getD d 0)) ∧ w.frozen? ⟨ob, d, none⟩ = false ∧ w.frozen? ⟨pb, d, none⟩ = false := by
  obtain ⟨h1, h2, h3, h4, h5, h6, h7, h8, h9⟩ := h
  have l1 := h9.1; have l2 := h9.2.1
  exact ⟨(blk_cell h7 d).trans (by rw [List.getElem?_toArray]; exact vals_get (getD_get (by omega))), (blk_cell h8 d).trans (by rw [List.getElem?_toArray]; exact ivals_get (by omega)), blk_frozen h7 d, blk_frozen h8 d⟩
theorem ivals_set (xs : List Int) (i : Nat) (x : Int) : (ivals xs).set i (.int .i64 x) = ivals (xs.set i x) := by simp [ivals, List.map_set]
theorem NearM.setP {w0 w : World} {F : Nat → Prop} {gx ob pb k : Nat} {s : ESt} {os : List Nat} {ps : List Int} (h : NearM w0 F gx ob pb k s os ps w) (d : Nat) (x : Int) (hR : NearR s os (ps.set d x)) : NearM w0 F gx ob pb k s os (ps.set d x) (w.setCell ⟨pb, d, none⟩ (.int .i64 x)) := by
  obtain ⟨h1, h2, h3, h4, h5, h6, h7, h8, h9⟩ := h
  have gs : GB w (w.setCell ⟨pb, d, none⟩ (.int .i64 x)) (· = pb) := (GB.refl w (· = pb)).set pb d _ (.inl rfl)
  refine ⟨h1.gb gs (fun i hi e => h3 (e ▸ hi)) (fun i e => e ▸ h5), h2, h3, h4, h5, h6, gs.blk h7 h6, ?_, hR⟩
  refine (blk_set h8 d _).trans ?_
  rw [← ivals_set]
  simp
theorem NearM.setO {w0 w : World} {F : Nat → Prop} {gx ob pb k : Nat} {s : ESt} {os : List Nat} {ps : List Int} (h : NearM w0 F gx ob pb k s os ps w) {s' : ESt} {F' : Nat → Prop} {w' : World} (h' : EpIn w0 F' gx 4 k s' w') (g : GB w w' F) (f : ∀ i, F' i → F i ∨ w.heap.size ≤ i) (d x : Nat) (hR : NearR s' (os.set d x) ps) : NearM w0 F' gx ob pb k s' (os.set d x) ps (w'.setCell ⟨ob, d, none⟩ (.int .u8 (x : Int))) := by
  obtain ⟨h1, h2, h3, h4, h5, h6, h7, h8, h9⟩ := h
  have gs : GB w' (w'.setCell ⟨ob, d, none⟩ (.int .u8 (x : Int))) (· = ob) := (GB.refl w' (· = ob)).set ob d _ (.inl rfl)
  have n1 : ¬ F' ob := fun e => (f _ e).elim h2 (fun e => by have := blk_lt h7; omega)
  have n2 : ¬ F' pb := fun e => (f _ e).elim h3 (fun e => by have := blk_lt h8; omega)
  refine ⟨h'.gb gs (fun i hi e => n1 (e ▸ hi)) (fun i e => e ▸ h4), n1, n2, h4, h5, h6, ?_, gs.blk (g.blk h8 h3) (fun e => h6 e.symm), hR⟩
  refine (blk_set (g.blk h7 h2) d _).trans ?_
  rw [vals_set]
  simp
/-- the Epochs went on -/
theorem NearM.go {w0 w : World} {F : Nat → Prop} {gx ob pb k : Nat} {s : ESt} {os : List Nat} {ps : List Int} (h : NearM w0 F gx ob pb k s os ps w) {s' : ESt} {F' : Nat → Prop} {k' : Nat} {w' : World} (h' : EpIn w0 F' gx 4 k' s' w') (g : GB w w' F) (f : ∀ i, F' i → F i ∨ w.heap.size ≤ i) (hR : NearR s' os ps) : NearM w0 F' gx ob pb k' s' os ps w' := by
  obtain ⟨h1, h2, h3, h4, h5, h6, h7, h8, h9⟩ := h
  exact ⟨h', fun e => (f _ e).elim h2 (fun e => by have := blk_lt h7; omega), fun e => (f _ e).elim h3 (fun e => by have := blk_lt h8; omega), h4, h5, h6, g.blk h7 h2, g.blk h8 h3, hR⟩
theorem near_new : NearR eInit [0, 0, 0, 0] [0, 0, 0, 0] := ⟨rfl, rfl, fun d hd => ⟨fun h => absurd rfl h, .inl (by
  rcases (by omega : d = 0 ∨ d = 1 ∨ d = 2 ∨ d = 3) with rfl | rfl | rfl | rfl <;> rfl)⟩⟩
set_option maxHeartbeats 4000000 in
set_option maxRecDepth 100000 in
theorem epochNear_walk (w : World) (A : Option Addr) (m c : Nat) (R : List (List Int)) (hl : R.length = m) (hk : RecsOk epickKs R) (hr : Rd w A (R.flatMap (recVals epickKs))) (_hnc : m ≤ c) (_hz : m ≤ 8796093021952) :
    Calls Try.prog 4 #[.slice A m c] w (RetTrue w) := by
  have Hl := Lib.hid hl; have Hk := Lib.hid hk; have Hr := Lib.hid hr
  clear hl hk hr
  go_enter Try.func4, Try.ntmps4
  go_wp2_with fail
  refine (epAwake w).mono ?_
  rintro e w1 ⟨rfl, hx1⟩
  go_wp2_with fail
  refine (ein_new 4 w w1 hx1 (by omega) (by omega)).mono ?_
  rintro e w2 ⟨gx, F2, rfl, h2, _⟩
  obtain ⟨ob, Hob⟩ : ∃ ob, Hid (w2.heap.size = ob) := ⟨_, rfl⟩
  obtain ⟨pb, Hpb⟩ : ∃ pb, Hid (w2.heap.size + 1 = pb) := ⟨_, rfl⟩
  have hob := Hob.out; have hpb := Hpb.out
  have H2 := Lib.hid (show NearAt w gx ob pb 0 ((w2.alloc (.cells #[.int .u8 0, .int .u8 0, .int .u8 0, .int .u8 0] 40)).alloc (.cells #[.int .i64 0, .int .i64 0, .int .i64 0, .int .i64 0] 41)) from
    ⟨F2, eInit, [0, 0, 0, 0], [0, 0, 0, 0], h2.ext (((Ext.refl w2).alloc _).alloc _), fun e => by have := h2.lt _ e; omega, fun e => by have := h2.lt _ e; omega, by have := h2.out.size; omega, by have := h2.out.size; omega, by omega, by rw [← hob]; exact blk_past (blk_new w2 _) _, by rw [← hpb]; exact blk_newk _ _ (by simp), near_new⟩)
  clear h2 hob hpb
  go_upto_block 0 with fail
  (try rw [Hpb.out])
  (try rw [Hob.out])
  obtain ⟨W2, hW2⟩ : ∃ W2, ((w2.alloc (.cells #[.int .u8 0, .int .u8 0, .int .u8 0, .int .u8 0] 40)).alloc (.cells #[.int .i64 0, .int .i64 0, .int .i64 0, .int .i64 0] 41)) = W2 := ⟨_, rfl⟩
  rw [hW2] at H2
  (try rw [hW2])
  clear hW2 Hob Hpb
  go_cut [] (fun wd => Ext w wd)
  case first =>
    go_wp2_with fail
    go_loopw [28] (fun i wr => ∃ k : Nat, k ≤ m ∧ k ≤ 400 ∧ i = .int .i64 (k : Int) ∧ NearAt w gx ob pb k wr) (fun i _ => m - (intOf i).toNat)
    case atStart => exact ⟨0, Nat.zero_le _, by omega, rfl, H2.out⟩
    case round =>
      obtain ⟨k, hk, hk2, rfl, F, s, os, ps, hI⟩ := hrel
      have HI := Lib.hid hI
      by_cases hlt : k < m
      · obtain ⟨r, hr⟩ : ∃ r, R[k]? = some r := ⟨_, List.getElem?_eq_getElem (by rw [Hl.out]; exact hlt)⟩
        obtain ⟨who, op, th, rfl, hwho, hop, hth⟩ := epick_row Hk.out hr
        obtain ⟨b, off, hA, _, c0, c1, c2⟩ := epick_cells (Hr.out.ext hI.out) Hk.out hr
        subst hA
        clear hr hI
        by_cases h400 : k < 400
        · obtain ⟨u, d, hu, hd0, hd4⟩ := umod (who := who) 4 (by omega)
          have hd : (u : Int) % 4 = (d : Int) := hd0
          clear hd0
          obtain ⟨W, hW⟩ : ∃ W, wr.alloc (.cells #[.int .i64 who, .int .u8 (op : Int), .int .i64 th] 29) = W := ⟨_, rfl⟩
          have xW : Ext wr W := by rw [← hW]; exact (Ext.refl wr).alloc _
          have KP := Lib.hid (show W.heap[wr.heap.size]? = some (.cells #[.int .i64 who, .int .u8 (op : Int), .int .i64 th] 29 (0, 0)) by rw [← hW]; exact blk_new wr _)
          have e0 : W.cell? ⟨wr.heap.size, 0, none⟩ = some (.int .i64 who) := blk_cell KP.out 0
          have e1 : W.cell? ⟨wr.heap.size, 1, none⟩ = some (.int .u8 (op : Int)) := blk_cell KP.out 1
          have MW := Lib.hid (HI.out.ext xW)
          by_cases hop0 : op = 0
          · have hopb : ((op : Int) != 0) = false := by rw [bne_eq_false_iff_eq]; omega
            clear hop0
            have PD := Lib.hid (ein_pend w W F gx 4 k d s MW.out.1 hd4)
            by_cases hs : (s.wk d).call = .idle
            · rw [(idle_iff _).2 hs] at PD
              clear hs
              go_wp2_with fail
              (try rw [hW])
              clear hW c0 c1 c2
              refine PD.out.mono ?_
              rintro e w3 ⟨rfl, rfl⟩
              go_wp2_with fail
              go_roundw
              case rel => exact ⟨k + 1, hlt, h400, by go_num, F, s, os, ps, by obtain ⟨a, b⟩ := MW.out; exact ⟨a.more (by omega), b⟩⟩
              case measure => simp [intOf]; omega
            · have hni : isIdle (s.wk d).call = false := by
                cases hi : isIdle (s.wk d).call with
                | false => rfl
                | true => exact absurd ((idle_iff _).1 hi) hs
              rw [hni] at PD
              have HS := Lib.hid hs
              obtain ⟨x, hx⟩ : ∃ x, os.getD d 0 = x := ⟨_, rfl⟩
              have HX := Lib.hid (show x = opOf (s.wk d).call from hx.symm.trans ((MW.out.2.2.2.2.2.2.2.2.2.2 d hd4).1 hs))
              obtain ⟨co, cp, fo, fp⟩ := MW.out.cells hd4
              rw [hx] at co
              clear hs hni hx
              go_wp2_with fail
              (try rw [hW])
              clear hW c0 c1 c2
              refine PD.out.mono ?_
              rintro e w3 ⟨rfl, rfl⟩
              go_upto_if 63 with fail
              go_cut [] (fun wd => ∃ ps', NearM w F gx ob pb k s os ps' wd ∧ (x = 2 → ps'.getD d 0 = 0))
              case first =>
                by_cases hx2 : x = 2
                · have q2 : ((x : Int) == 2) = true := by rw [beq_iff_eq]; omega
                  go_wp2_with fail
                  go_meet
                  exact ⟨ps.set d 0, MW.out.setP d 0 (near_zero MW.out.2.2.2.2.2.2.2.2), fun _ => getD_set_self (by have := MW.out.2.2.2.2.2.2.2.2.2.1; omega)⟩
                · have q2 : ((x : Int) == 2) = false := by rw [beq_eq_false_iff_ne]; omega
                  go_wp2_with fail
                  go_meet
                  exact ⟨ps, MW.out, fun h => absurd h hx2⟩
              case rest =>
                obtain ⟨ps', hM, hz⟩ := hcut
                have HMc := Lib.hid hM; have HZ := Lib.hid hz
                have SP0 := ein_step w wc F gx 4 k d s hM.1 hd4 HS.out (by omega)
                have HI4 := hM.1.inv.1
                have HG := Lib.hid (near_go hM.2.2.2.2.2.2.2.2 HI4 hd4 HS.out (fun h => hz (HX.out.trans h)))
                have HD := Lib.hid (fun h ho hdn => near_done (ps := ps') (os := os) h HI4 hd4 HS.out ho hdn)
                obtain ⟨P, hP⟩ : ∃ P, eStep 4 s d = P := ⟨_, rfl⟩
                rw [hP] at SP0 HG HD
                obtain ⟨s2, ⟨dn, er, nu, th2⟩⟩ := P
                have SP := Lib.hid SP0
                clear SP0 hM hz hP HI4 co cp fo fp
                go_wp2_with fail
                refine SP.out.mono ?_
                rintro e w7 ⟨A7, m7, q7, F7, rfl, i7, g7, f7, t7⟩
                have M7 := HMc.out.go i7 g7 f7 HG.out
                have hnub : nu ≤ k + 1 ∨ True := .inr trivial
                obtain ⟨V, hV⟩ : ∃ V, w7.alloc (.cells #[.bool dn, .int .i64 (er : Int), .int .i64 (nu : Int), .slice A7 m7 q7] 36) = V := ⟨_, rfl⟩
                have xV : Ext w7 V := by rw [← hV]; exact (Ext.refl w7).alloc _
                have KV := Lib.hid (show V.heap[w7.heap.size]? = some (.cells #[.bool dn, .int .i64 (er : Int), .int .i64 (nu : Int), .slice A7 m7 q7] 36 (0, 0)) by rw [← hV]; exact blk_new w7 _)
                have MV := Lib.hid (M7.ext xV)
                have r0 : V.cell? ⟨w7.heap.size, 0, none⟩ = some (.bool dn) := blk_cell KV.out 0
                have r2 : V.cell? ⟨w7.heap.size, 2, none⟩ = some (.int .i64 (nu : Int)) := blk_cell KV.out 2
                obtain ⟨co, cp, fo, fp⟩ := MV.out.cells hd4
                have hxo : os.getD d 0 = x := by
                  have := (HMc.out.2.2.2.2.2.2.2.2.2.2 d hd4).1 HS.out
                  rw [this]; exact HX.out.symm
                rw [hxo] at co
                clear hxo M7 i7 g7 f7 t7 hnub
                go_upto_region 23 with fail
                (try rw [hV])
                clear hV
                go_cut [81] (fun v81 wd => v81 = .bool (dn && decide (x = 1)) ∧ wd = V)
                case first =>
                  cases dn with
                  | false =>
                    go_wp2_with fail
                    go_meet
                    exact ⟨rfl, rfl⟩
                  | true =>
                    by_cases hx1 : x = 1
                    · have q1 : ((x : Int) == 1) = true := by rw [beq_iff_eq]; omega
                      have HX1 := Lib.hid hx1
                      clear hx1
                      go_wp2_with fail
                      go_meet
                      exact ⟨by rw [decide_eq_true HX1.out]; rfl, rfl⟩
                    · have q1 : ((x : Int) == 1) = false := by rw [beq_eq_false_iff_ne]; omega
                      go_wp2_with fail
                      go_meet
                      exact ⟨by rw [decide_eq_false hx1]; rfl, rfl⟩
                case rest =>
                obtain ⟨rfl, rfl⟩ := hcut
                obtain ⟨bb, Hbb⟩ : ∃ bb, Hid ((dn && decide (x = 1)) = bb) := ⟨_, rfl⟩
                rw [Hbb.out]
                go_upto_if 81 with fail
                go_cut [] (fun wd => NearAt w gx ob pb (k + 1) wd)
                case first =>
                  cases bb with
                  | false =>
                    go_wp2_with fail
                    go_meet
                    exact ⟨F7, s2, os, ps', MV.out⟩
                  | true =>
                    have hb2 := Hbb.out
                    rw [Bool.and_eq_true] at hb2
                    have hdn : dn = true := hb2.1
                    have hx1 : x = 1 := of_decide_eq_true hb2.2
                    subst hdn
                    have hnear := Lib.hid (HD.out MV.out.2.2.2.2.2.2.2.2 (HX.out.symm.trans hx1) rfl)
                    have hnu : nu ≤ 1000000 := by
                      have e1 := near_num hnear.out hd4 MV.out.1.inv.2.1
                      omega
                    have hww : IntKind.i64.wrap ((nu : Int) + 1) = (nu : Int) + 1 := by rw [IntKind.wrap_i64]; omega
                    clear hx1 hb2
                    go_wp2_with fail
                    go_meet
                    exact ⟨F7, s2, os, ps'.set d ((nu : Int) + 1), MV.out.setP d ((nu : Int) + 1) hnear.out⟩
                case rest =>
                  have HN := Lib.hid hcut
                  clear co cp fo fp r0 r2 hcut
                  go_wp2_with fail
                  go_loopw [87] (fun i wx => ∃ j : Nat, j ≤ 4 ∧ i = .int .i64 (j : Int) ∧ NearAt w gx ob pb (k + 1) wx) (fun i _ => 4 - (intOf i).toNat)
                  case atStart => exact ⟨0, Nat.zero_le _, rfl, HN.out⟩
                  case round =>
                    obtain ⟨j, hj, rfl, Fx, sx, ox, px, hx⟩ := hrel
                    have HXX := Lib.hid hx
                    by_cases hj4 : j < 4
                    · obtain ⟨-, cp, -, fp⟩ := hx.cells hj4
                      have hok := near_ok hx.2.2.2.2.2.2.2.2 hx.1.inv.1 hj4
                      have EP := Lib.hid (fun (u : World) (x : Ext wr u) => ein_epoch w u Fx gx 4 (k + 1) sx (hx.1.ext x) (by omega))
                      have hepb := hx.1.inv.2.1.1
                      obtain ⟨pv, hpv⟩ : ∃ pv, px.getD j 0 = pv := ⟨_, rfl⟩
                      obtain ⟨ep, hep⟩ : ∃ ep, sx.ep = ep := ⟨_, rfl⟩
                      rw [hpv] at cp hok
                      rw [hep] at hok EP hepb
                      clear hx hpv hep
                      rcases hok with hok | ⟨ok1, ok2, ok3⟩
                      · subst hok
                        go_wp2_with fail
                        go_quiet ((go_at_call 17; exact quiet_eq (EP.out _ ((Ext.refl wr).drewN _))))
                        go_wp2_with fail
                        go_roundw
                        case rel => exact ⟨j + 1, hj4, by go_num, Fx, sx, ox, px, HXX.out.ext ((Ext.refl wr).drewN _)⟩
                        case measure => simp [intOf]; omega
                      · have q1 : ¬ (ep : Int) < pv - 1 := by omega
                        have q2 : ¬ pv < (ep : Int) := by omega
                        have q3 : IntKind.i64.wrap (pv - 1) = pv - 1 := by rw [IntKind.wrap_i64]; omega
                        go_wp2_with fail
                        go_quiet ((go_at_call 17; exact quiet_eq (EP.out _ ((Ext.refl wr).drewN _))))
                        go_wp2_with fail
                        go_roundw
                        case rel => exact ⟨j + 1, hj4, by go_num, Fx, sx, ox, px, HXX.out.ext ((Ext.refl wr).drewN _)⟩
                        case measure => simp [intOf]; omega
                    · clear hx
                      go_wp2_with fail
                      go_roundw
                      case rel => exact ⟨k + 1, hlt, h400, by go_num, Fx, sx, ox, px, HXX.out⟩
                      case measure => simp [intOf]; omega
          · have hopb : ((op : Int) != 0) = true := by rw [bne_iff_ne]; omega
            obtain ⟨o, ho, ho1, ho5⟩ : ∃ o : Nat, (1 : Int) + (op : Int) % 5 = (o : Int) ∧ 1 ≤ o ∧ o ≤ 5 := ⟨1 + op % 5, by omega, by omega, by omega⟩
            have ST := ein_start w W F gx 4 k d o (k : Int) s MW.out.1 hd4 ho1 ho5
            unfold startSt at ST
            clear hop0
            by_cases he : startErr s d o = 0
            · rw [if_pos he, he] at ST
              have STh := Lib.hid ST
              clear ST he
              go_wp2_with fail
              (try rw [hW])
              clear hW c0 c1 c2
              refine STh.out.mono ?_
              rintro e w4 ⟨rfl, F4, i4, g4, f4⟩
              have M4 := Lib.hid (MW.out.setO i4 g4 f4 d o (near_begin MW.out.2.2.2.2.2.2.2.2 hd4))
              have ko := (g4.blk MW.out.2.2.2.2.2.2.1 MW.out.2.1)
              have co : w4.cell? ⟨ob, d, none⟩ = some (.int .u8 ((os.getD d 0 : Nat) : Int)) := (blk_cell ko d).trans (by rw [List.getElem?_toArray]; exact vals_get (getD_get (by have := MW.out.2.2.2.2.2.2.2.2.1; omega)))
              have fo := blk_frozen ko d
              clear i4 g4 f4 ko
              go_wp2_with fail
              go_roundw
              case rel => exact ⟨k + 1, hlt, h400, by go_num, F4, _, _, ps, by obtain ⟨a, b⟩ := M4.out; exact ⟨a.more (by omega), b⟩⟩
              case measure => simp [intOf]; omega
            · rw [if_neg he] at ST
              have hne : (startErr s d o == 0) = false := by rw [beq_eq_false_iff_ne]; exact he
              obtain ⟨q, hq⟩ : ∃ q, startErr s d o = q := ⟨_, rfl⟩
              rw [hq] at ST hne
              have STh := Lib.hid ST
              clear ST he hq
              go_wp2_with fail
              (try rw [hW])
              clear hW c0 c1 c2
              refine STh.out.mono ?_
              rintro e w4 ⟨rfl, F4, i4, g4, f4⟩
              have M4 := Lib.hid (MW.out.go i4 g4 f4 MW.out.2.2.2.2.2.2.2.2)
              clear i4 g4 f4
              go_wp2_with fail
              go_roundw
              case rel => exact ⟨k + 1, hlt, h400, by go_num, F4, s, os, ps, by obtain ⟨a, b⟩ := M4.out; exact ⟨a.more (by omega), b⟩⟩
              case measure => simp [intOf]; omega
        · have HX := Lib.hid HI.out.out
          go_wp2_with fail
          go_meet
          exact HX.out.alloc _
      · have HX := Lib.hid hI.out
        clear hI
        go_wp2_with fail
        go_meet
        exact HX.out
  case rest =>
    go_wp2_with fail
    go_ret
    exact retTrue hcut
end Go.Proofs.Ytlgggeeflomelaa
