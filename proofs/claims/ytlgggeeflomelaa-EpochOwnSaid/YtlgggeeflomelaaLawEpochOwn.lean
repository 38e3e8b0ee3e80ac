/- EpochOwn answers true. -/
import Derived.Test.YtlgggeeflomelaaEpRows
import Derived.Test.YtlgggeeflomelaaEpPick
import Derived.Test.YtlgggeeflomelaaFrame
import Derived.Deep.RegionWith
namespace Go.Proofs.Ytlgggeeflomelaa
open Go.RowKit

theorem free_err {s : ESt} {d o : Nat} (hi : (s.wk d).call = .idle) (hl : (s.wk d).held.length < 4096) :
    (o = 2 ∧ (s.wk d).pinned = false ∧ startErr s d o = 7) ∨ (o = 1 ∧ (s.wk d).pinned = true ∧ startErr s d o = 8) ∨ (startErr s d o = 0 ∧ (o = 1 → (s.wk d).pinned = false) ∧ (o = 2 → (s.wk d).pinned = true)) := by
  unfold startErr
  have h0 : isIdle (s.wk d).call = true := (idle_iff _).2 hi
  rw [if_neg (by rw [h0]; decide)]
  by_cases e2 : o = 2 ∧ (s.wk d).pinned = false
  · exact .inl ⟨e2.1, e2.2, if_pos e2⟩
  · rw [if_neg e2]
    by_cases e1 : o = 1 ∧ (s.wk d).pinned = true
    · exact .inr (.inl ⟨e1.1, e1.2, if_pos e1⟩)
    · rw [if_neg e1, if_neg (by omega)]
      refine .inr (.inr ⟨rfl, fun e => ?_, fun e => ?_⟩)
      · cases hp : (s.wk d).pinned with
        | false => rfl
        | true => exact absurd ⟨e, hp⟩ e1
      · cases hp : (s.wk d).pinned with
        | true => rfl
        | false => exact absurd ⟨e, hp⟩ e2
def listsOf (s : ESt) (d : Nat) : List Int := (s.wk d).held.map (·.1)
/-- what EpochOwn keeps from round to round -/
def OwnAt (w0 : World) (gx hb k : Nat) (w : World) : Prop := ∃ F s vs bs, EpIn w0 F gx 3 (6 * k) s w ∧ (∀ d, d < 3 → (s.wk d).call = .idle) ∧ RowsM w0 F hb (listsOf s) vs bs w
theorem OwnAt.out {w0 w : World} {gx hb k : Nat} (h : OwnAt w0 gx hb k w) : Ext w0 w := by
  obtain ⟨F, s, vs, bs, h, _⟩ := h
  exact h.out
theorem OwnAt.ext {w0 w w' : World} {gx hb k : Nat} (h : OwnAt w0 gx hb k w) (x : Ext w w') : OwnAt w0 gx hb k w' := by
  obtain ⟨F, s, vs, bs, h1, h2, h3⟩ := h
  exact ⟨F, s, vs, bs, h1.ext x, h2, h3.ext x⟩
theorem made_lists (t : TypeId) : (.cells (madeCells #[.slice none 0 0] 3) t : Obj) = .cells #[.slice none 0 0, .slice none 0 0, .slice none 0 0] t (0, 0) := by
  congr 1
  apply Array.ext'
  rw [toList_madeCells_one]
  rfl
theorem info_ints : (Try.prog.info? 34).map (fun i => (i.zero, i.size, i.bytes)) = some (some (.slice none 0 0), 1, 24) := by kernel_rfl
set_option maxHeartbeats 4000000 in
set_option maxRecDepth 100000 in
theorem epochOwn_walk (w : World) (A : Option Addr) (m c : Nat) (R : List (List Int)) (hl : R.length = m) (hk : RecsOk epickKs R) (hr : Rd w A (R.flatMap (recVals epickKs))) (_hnc : m ≤ c) (_hz : m ≤ 8796093021952) :
    Calls Try.prog 5 #[.slice A m c] w (RetTrue w) := by
  have Hl := Lib.hid hl; have Hk := Lib.hid hk; have Hr := Lib.hid hr
  clear hl hk hr
  have hmk : ∀ u : World, (Instr.makeSlice 42 (.int .i64 3) (.int .i64 3)).run Try.prog u = .ok (.slice (some ⟨u.heap.size, 0, none⟩) 3 3) (u.alloc (.cells (madeCells #[.slice none 0 0] 3) 34)) := run_make_row' (P := Try.prog) 42 34 (.slice none 0 0) 24 Try.underlying42 info_ints rfl .i64 .i64 3 (by omega) (by omega)
  go_enter Try.func5, Try.ntmps5
  go_wp2_with fail
  refine (epAwake w).mono ?_
  rintro e w1 ⟨rfl, hx1⟩
  go_wp2_with fail
  refine (ein_new 3 w w1 hx1 (by omega) (by omega)).mono ?_
  rintro e w2 ⟨gx, F2, rfl, h2, _⟩
  obtain ⟨hb, Hhb⟩ : ∃ hb, Hid (w2.heap.size = hb) := ⟨_, rfl⟩
  have hhb := Hhb.out
  obtain ⟨W2, HW2⟩ : ∃ W2, Hid (w2.alloc (.cells (madeCells #[.slice none 0 0] 3) 34) = W2) := ⟨_, rfl⟩
  have hW2 := HW2.out
  have x2 : Ext w2 W2 := by rw [← hW2]; exact (Ext.refl w2).alloc _
  have H2 := Lib.hid (show OwnAt w gx hb 0 W2 from ⟨F2, eInit, fun _ => .slice none 0 0, fun _ => none, h2.ext x2, fun _ _ => rfl, fun e => by have := h2.lt _ e; omega, by have := h2.out.size; omega, by rw [← hhb, ← hW2]; exact (blk_new w2 _).trans (congrArg some (made_lists _)), fun d hd => ⟨off_nil W2, fun b e => by cases e⟩, fun i j b _ _ e => by cases e⟩)
  clear h2 hhb hW2 x2
  go_upto_block 0 with fail
  (try rw [Hhb.out])
  (try rw [HW2.out])
  clear Hhb HW2 hmk
  go_cut [] (fun wd => Ext w wd)
  case first =>
    go_wp2_with fail
    go_loopw [27] (fun i wr => ∃ k : Nat, k ≤ m ∧ k ≤ 200 ∧ i = .int .i64 (k : Int) ∧ OwnAt w gx hb k wr) (fun i _ => m - (intOf i).toNat)
    case atStart => exact ⟨0, Nat.zero_le _, by omega, rfl, H2.out⟩
    case round =>
      obtain ⟨k, hk, hk2, rfl, F, s, vs, bs, hI, hidle, hRw⟩ := hrel
      have HI := Lib.hid hI; have HID := Lib.hid hidle; have HRW := Lib.hid hRw
      by_cases hlt : k < m
      · obtain ⟨r, hr⟩ : ∃ r, R[k]? = some r := ⟨_, List.getElem?_eq_getElem (by rw [Hl.out]; exact hlt)⟩
        obtain ⟨who, op, th, rfl, hwho, hop, hth⟩ := epick_row Hk.out hr
        obtain ⟨b, off, hA, _, c0, c1, c2⟩ := epick_cells (Hr.out.ext hI.out) Hk.out hr
        subst hA
        clear hr hI hidle hRw
        by_cases h200 : k < 200
        · obtain ⟨u, d, hu, hd0, hd3⟩ := umod (who := who) 3 (by omega)
          have hd : (u : Int) % 3 = (d : Int) := hd0
          clear hd0
          obtain ⟨o, ho, ho1, ho5⟩ : ∃ o : Nat, (1 : Int) + (op : Int) % 5 = (o : Int) ∧ 1 ≤ o ∧ o ≤ 5 := ⟨1 + op % 5, by omega, by omega, by omega⟩
          obtain ⟨W, hW⟩ : ∃ W, wr.alloc (.cells #[.int .i64 who, .int .u8 (op : Int), .int .i64 th] 29) = W := ⟨_, rfl⟩
          have xW : Ext wr W := by rw [← hW]; exact (Ext.refl wr).alloc _
          have KP := Lib.hid (show W.heap[wr.heap.size]? = some (.cells #[.int .i64 who, .int .u8 (op : Int), .int .i64 th] 29 (0, 0)) by rw [← hW]; exact blk_new wr _)
          have e0 : W.cell? ⟨wr.heap.size, 0, none⟩ = some (.int .i64 who) := blk_cell KP.out 0
          have e1 : W.cell? ⟨wr.heap.size, 1, none⟩ = some (.int .u8 (op : Int)) := blk_cell KP.out 1
          have IW := Lib.hid (HI.out.ext xW)
          have RW := Lib.hid (HRW.out.ext xW)
          have hcase := free_err (o := o) (HID.out d hd3) (by have := (HI.out.inv.2.1.2 d).2; omega)
          by_cases he : startErr s d o = 0
          · have RN0 := erun_ok' w W F gx 3 (6 * k) d o (k : Int) s IW.out hd3 ho1 ho5 he (by omega)
            have hIn := IW.out.inv
            obtain ⟨hi0, hp0, hu0⟩ := start_idle he
            have hI1 := einv_start (thing := (k : Int)) hIn.1 hd3 hi0 ho1 ho5 hp0 hu0
            have hal : AloneOk o s.ep (s.wk d).pinned (s.wk d).held s.pw (k : Int) d (s.put d { s.wk d with call := .begun o (k : Int) }) := alone_start
            have hlf : leftOf 3 (s.put d { s.wk d with call := .begun o (k : Int) }) d ≤ 100 := by
              unfold leftOf
              rw [put_self]
              show (if o = 1 then 3 else if o = 4 then 3 + 2 else 1) ≤ 100
              split
              · omega
              · split <;> omega
            obtain ⟨hfin, hoth, _⟩ := run_alone 100 _ hI1 hd3 hal hlf
            have hof := own_fin hfin (hIn.2.2.1 d)
            obtain ⟨P, hP⟩ : ∃ P, eRun 3 d 100 (s.put d { s.wk d with call := .begun o (k : Int) }) = P := ⟨_, rfl⟩
            rw [hP] at RN0 hfin hoth hof
            have RN := Lib.hid RN0; have HFI := Lib.hid hfin; have HOT := Lib.hid hoth; have HOF := Lib.hid hof
            clear RN0 hIn hi0 hp0 hu0 hI1 hal hlf hfin hoth hof hP he hcase
            obtain ⟨s2, ⟨dn, er, nu, ths⟩⟩ := P
            go_wp2_with fail
            (try rw [hW])
            clear hW c0 c1 c2
            refine RN.out.mono ?_
            rintro e w4 ⟨A4, m4, q4, F4, rfl, i4, g4, f4, t4⟩
            obtain ⟨V, hV⟩ : ∃ V, w4.alloc (.cells #[.bool dn, .int .i64 (er : Int), .int .i64 (nu : Int), .slice A4 m4 q4] 36) = V := ⟨_, rfl⟩
            have xV : Ext w4 V := by rw [← hV]; exact (Ext.refl w4).alloc _
            have KV := Lib.hid (show V.heap[w4.heap.size]? = some (.cells #[.bool dn, .int .i64 (er : Int), .int .i64 (nu : Int), .slice A4 m4 q4] 36 (0, 0)) by rw [← hV]; exact blk_new w4 _)
            have IV := Lib.hid (i4.ext xV)
            have RV := Lib.hid ((RW.out.go g4 f4).ext xV)
            have TV := Lib.hid (own_ext t4.1 xV)
            have NTV := Lib.hid t4.2
            have hbW : hb < W.heap.size := blk_lt RW.out.2.2.1
            have hbs : ∀ b, bs d = some b → b < W.heap.size := (RW.out.2.2.2.1 d hd3).1.lt
            have hbF : ∀ b, bs d = some b → ¬ F4 b ∧ b ≠ hb ∧ w.heap.size ≤ b := (RV.out.2.2.2.1 d hd3).2
            have hW4 : W.heap.size ≤ w4.heap.size := g4.size
            have hwW : w.heap.size ≤ W.heap.size := (IW.out).out.size
            obtain ⟨aoV, capV, hvV, _, _, _⟩ := (RV.out.2.2.2.1 d hd3).1.shape
            have OV := (RV.out.2.2.2.1 d hd3).1
            obtain ⟨cV, fV⟩ := RV.out.cell hd3
            rw [hvV] at cV OV
            have hLk : (listsOf s d).length ≤ 2000 := by
              have h9 := (HI.out.inv.2.1.2 d).2
              show ((s.wk d).held.map (·.1)).length ≤ 2000
              rw [List.length_map]
              omega
            have HOV := Lib.hid OV
            have nhb := RV.out.1
            have HbF := Lib.hid hbF; have Hbs := Lib.hid hbs
            clear i4 g4 f4 t4 hvV OV hbF hbs
            go_upto_if 71 with fail
            (try rw [hV])
            clear hV
            go_cut [] (fun wd => ∃ vs' bs', RowsM w F4 hb (updG (listsOf s) d (ownList o (listsOf s d) (k : Int))) vs' bs' wd ∧ EpIn w F4 gx 3 (6 * k + 6) s2 wd ∧ wd.heap[w4.heap.size]? = some (.cells #[.bool dn, .int .i64 (er : Int), .int .i64 (nu : Int), .slice A4 m4 q4] 36 (0, 0)) ∧ wd.ownsRow W.heap.size 3 1 (.slice A4 m4 q4) m4 (ivals ths))
            case first =>
              by_cases ho3 : o = 3
              · have q3 : ((o : Int) == 3) = true := by rw [beq_iff_eq]; omega
                have HO3 := Lib.hid ho3
                clear ho3
                obtain ⟨n9, hn9⟩ : ∃ n9, Hid ((listsOf s d).length = n9) := ⟨_, rfl⟩
                have OV2 := HOV.out
                rw [hn9.out] at OV2 cV hLk
                have HOV2 := Lib.hid OV2
                clear OV2
                have xA : Ext V (V.alloc (.cells #[.int .i64 (k : Int)] 3)) := (Ext.refl V).alloc _
                go_wp2_with (at_builtin; refine app_off (V.alloc (.cells #[.int .i64 (k : Int)] 3)) rfl (.tmp 77) (.tmp 79) rfl rfl (HOV2.out.ext xA) (by omega) (k : Int) rfl (rd_newk V [.int .i64 (k : Int)] _ rfl) ?_; intro ao9 cap9 w9 ob9 O9 G9 B9; have s9 : w9.cell? ⟨hb, d, none⟩ = _ := G9.cell (ext_cell xA cV) (fun e => (HbF.out hb e).2.1 rfl); have f9 : w9.frozen? ⟨hb, d, none⟩ = false := (frozen_gb G9 (Nat.lt_of_lt_of_le (Nat.lt_of_lt_of_le hbW hW4) (Nat.le_trans xV.size xA.size)) (fun e => (HbF.out hb e).2.1 rfl)).trans (frz_ext xA cV fV); have HO9 := Lib.hid O9; have HG9 := Lib.hid G9; have HB9 := Lib.hid B9; clear O9 G9 B9)
                go_meet
                have gs : GB (V.alloc (.cells #[.int .i64 (k : Int)] 3)) (w9.setCell ⟨hb, d, none⟩ (.slice ao9 (n9 + 1) cap9)) (fun b => bs d = some b ∨ b = hb) := (HG9.out.more (fun i _ hi => .inl hi)).set hb d _ (.inl (.inr rfl))
                have hge := (IV.out.out).size
                have hl9 : (listsOf s d ++ [(k : Int)]).length = n9 + 1 := by rw [List.length_append, hn9.out]; rfl
                refine ⟨updG vs d (.slice ao9 (n9 + 1) cap9), updG bs d ob9, ?_, ((IV.out.ext xA).gb gs (fun i hi e => ?_) (fun i e => ?_)).more (by omega), gs.blk (blk_ext KV.out xA) (fun e => ?_), gs.own (own_ext TV.out xA) (fun q hq e => ?_)⟩
                · have := (RV.out.ext xA).put (L' := listsOf s d ++ [(k : Int)]) hd3 (fun i hi => Nat.lt_of_lt_of_le (IV.out.lt i hi) xA.size) (by have := xA.size; omega) (by rw [hl9]; exact HO9.out) HG9.out (fun b hb9 => by
                    rcases HB9.out with h | h
                    · exact .inl (h ▸ hb9)
                    · rw [h] at hb9; injection hb9 with hb9; exact .inr (by omega))
                  rw [show ownList o (listsOf s d) (k : Int) = listsOf s d ++ [(k : Int)] from if_pos HO3.out]
                  exact this
                · rcases e with e | e
                  · exact (HbF.out i e).1 hi
                  · exact nhb (e ▸ hi)
                · rcases e with e | e
                  · exact (HbF.out i e).2.2
                  · rw [e]; exact RV.out.2.1
                · rcases e with e | e
                  · have := Hbs.out _ e; omega
                  · omega
                · have h9 := (TV.out.lt q hq).1
                  rcases e with e | e
                  · have := Hbs.out _ e; omega
                  · omega
              · have q3 : ((o : Int) == 3) = false := by rw [beq_eq_false_iff_ne]; omega
                go_wp2_with fail
                go_meet
                refine ⟨vs, bs, ?_, IV.out.more (by omega), KV.out, TV.out⟩
                rw [show ownList o (listsOf s d) (k : Int) = listsOf s d from if_neg ho3]
                exact RV.out.congr (fun j _ => by
                  by_cases e : j = d
                  · subst e; rw [updG_self]
                  · rw [updG_other _ _ e])
            case rest =>
              obtain ⟨vs', bs', hR, hE, hK, hT⟩ := hcut
              have HLm := HOF.out
              obtain ⟨Lm, hLm⟩ : ∃ Lm, Hid (ownList o (listsOf s d) (k : Int) = Lm) := ⟨_, rfl⟩
              have hLm2 : ownList o ((s.wk d).held.map (·.1)) (k : Int) = Lm := hLm.out
              rw [hLm2] at HLm
              rw [hLm.out] at hR
              obtain ⟨l1, l2, l3, l4⟩ := HLm
              obtain ⟨OL, BL⟩ := hR.2.2.2.1 d hd3
              rw [updG_self] at OL
              have hm4 : m4 = ths.length := by have := hT.1; rw [ivals_len] at this; omega
              have l1' : ths = Lm.take ths.length := l1
              have l2' : ths.length ≤ Lm.length := l2
              have l3' : listsOf s2 d = Lm.drop ths.length := l3
              have l4' : o ≠ 5 → ths = [] := l4
              rw [← hm4] at l1' l2' l3'
              obtain ⟨n9, hn9⟩ : ∃ n9, Lm.length = n9 := ⟨_, rfl⟩
              rw [hn9] at OL l2'
              have hLk2 : n9 ≤ 3000 := by
                rw [← hn9, ← hLm.out]
                unfold ownList
                split
                · rw [List.length_append, List.length_singleton]; omega
                · omega
              obtain ⟨aoL, capL, hvL, hnc, hcm, hRdL⟩ := OL.shape
              rw [hvL] at OL
              obtain ⟨cL, fL⟩ := hR.cell hd3
              rw [hvL] at cL
              have HRM := Lib.hid hR; have HEM := Lib.hid hE; have HKM := Lib.hid hK; have HTM := Lib.hid hT
              have HOL := Lib.hid OL; have HBL := Lib.hid BL; have HL1 := Lib.hid l1'; have HL3 := Lib.hid l3'; have Hn9 := Lib.hid hn9; have Hm4 := Lib.hid hm4
              have r3 : wc.cell? ⟨w4.heap.size, 3, none⟩ = some (.slice A4 m4 q4) := blk_cell hK 3
              have hlec : (n9 : Int) ≤ (capL : Int) := by omega
              obtain ⟨AT, hsT, hRT⟩ := off_to OL m4 l2' (ki := (m4 : Int)) rfl
              obtain ⟨vD, obD, hsD, hOD, hobD⟩ := OL.drop Try.underlying34 size_int m4 l2' (ki := (m4 : Int)) rfl
              obtain ⟨aoD, capD, rfl, hncD, hcmD, hRdD⟩ := hOD.shape
              have hle1 : decide ((n9 : Int) < (m4 : Int)) = false := decide_eq_false (by omega)
              have hle0 : (0 : Int) ≤ (m4 : Int) := by omega
              have hle2 : (m4 : Int) ≤ (n9 : Int) := by omega
              have hle3 : (m4 : Int) ≤ (capL : Int) := by omega
              have SI := Lib.hid (fun (u : World) (x : Ext wc u) => by
                have h9 := sameN_any A4 AT m4 q4 m4 capL ths (Lm.take m4) u hm4.symm (by rw [List.length_take]; omega) (by omega) ((own_rd hT).ext x) (by rw [ivals_take]; exact hRT.ext x)
                rw [show same ths (Lm.take m4) = true from decide_eq_true l1'] at h9
                exact h9)
              have HOD := Lib.hid hOD; have HobD := Lib.hid hobD
              have HEh := Lib.hid (fun (u : World) (h : EpIn w F4 gx 3 (6 * k + 6) s2 u) => ein_held w u F4 gx 3 (6 * k + 6) d s2 h hd3 (by omega))
              have hcap4 : (m4 : Int) ≤ 1000000 := by omega
              have hd3i : (d : Int) < 3 := by omega
              have hd0i : (0 : Int) ≤ (d : Int) := by omega
              have H3W : Hid (hb < wc.heap.size ∧ w.heap.size ≤ wc.heap.size) := Lib.hid ⟨blk_lt hR.2.2.1, hE.out.size⟩
              clear hR hE hK hT OL BL l1 l2 l3 l1' l3' hn9 hm4 hvL hRdL hRT hOD hobD hRdD hLm2
              by_cases ho5x : o = 5
              · have q5 : ((o : Int) != 5) = false := by rw [bne_eq_false_iff_eq]; omega
                clear ho5x l4 l4'
                go_wp2_with fail
                go_quiet ((go_at_call 21; exact quiet_q (SI.out _ ((Ext.refl wc).drewN _))))
                obtain ⟨U, hU⟩ : ∃ U, wc.drewN nq = U := ⟨_, rfl⟩
                have xU : Ext wc U := by rw [← hU]; exact (Ext.refl wc).drewN nq
                have cU := ext_cell xU cL
                have fU := frz_ext xU cL fL
                have rU := ext_cell xU r3
                (try rw [hU])
                clear hU cL fL r3
                go_upto_region 21 with fail
                go_region
                all_goals
                  have gs : GB U (U.setCell ⟨hb, d, none⟩ (.slice aoD (n9 - m4) capD)) (· = hb) := (GB.refl U (· = hb)).set hb d _ (.inl rfl)
                  have hD1 : (Lm.drop m4).length = n9 - m4 := by rw [List.length_drop, Hn9.out]
                  have RP := (HRM.out.ext xU).put (L' := Lm.drop m4) (v' := .slice aoD (n9 - m4) capD) (ob' := obD) hd3 (fun i hi => Nat.lt_of_lt_of_le (HEM.out.lt i hi) xU.size) (by have := H3W.out.2; have := xU.size; omega) (by rw [hD1, ivals_drop]; exact HOD.out.ext xU) (GB.of_ext _ (Ext.refl U)) (fun b hb9 => .inl (HobD.out b hb9))
                  have EP := (HEM.out.ext xU).gb gs (fun i hi e => HRM.out.1 (e ▸ hi)) (fun i e => e ▸ HRM.out.2.1)
                  obtain ⟨U2, hU2⟩ : ∃ U2, (U.setCell ⟨hb, d, none⟩ (.slice aoD (n9 - m4) capD)).drew = U2 := ⟨_, rfl⟩
                  have x2 : Ext (U.setCell ⟨hb, d, none⟩ (.slice aoD (n9 - m4) capD)) U2 := by rw [← hU2]; exact (Ext.refl _).drew
                  have HRP := Lib.hid (RP.ext x2); have HEP := Lib.hid (EP.ext x2)
                  have c2 : U2.cell? ⟨hb, d, none⟩ = some (.slice aoD (n9 - m4) capD) := by have := ((RP.ext x2).cell hd3).1; rwa [updG_self] at this
                  (try rw [hU2])
                  clear hU2 RP EP gs
                  have OU2 := (HRP.out.2.2.2.1 d hd3).1
                  rw [updG_self, updG_self, updG_self, hD1] at OU2
                  have hrU := Lib.hid OU2.rd
                  have e3 : (s2.wk d).held.map (·.1) = Lm.drop m4 := HL3.out
                  have HH : Hid (∀ u, Ext U2 u → Calls Try.prog 22 #[.pointer (some ⟨gx, 0, none⟩), .int .i64 (d : Int)] u fun e w' => ∃ A9 c9, e = .returned (.slice A9 (n9 - m4) c9) ∧ Rd w' A9 (ivals (Lm.drop m4)) ∧ Ext u w') := Lib.hid fun u x => (HEh.out u (HEP.out.ext x)).mono (by
                    rintro e w' ⟨A9, c9, rfl, o9, x9⟩
                    rw [e3] at o9 ⊢
                    rw [hD1] at o9 ⊢
                    exact ⟨A9, c9, rfl, own_rd o9, x9⟩)
                  have SI2 : Hid (∀ u, Ext U2 u → ∀ A9 c9, Rd u A9 (ivals (Lm.drop m4)) → Calls Try.prog 21 #[.slice A9 (n9 - m4) c9, .slice aoD (n9 - m4) capD] u (RetQ (.bool true) u)) := Lib.hid fun u x A9 c9 hr9 => by
                    have h9 := sameN_any A9 aoD (n9 - m4) c9 (n9 - m4) capD (Lm.drop m4) (Lm.drop m4) u hD1 hD1 (by omega) hr9 (hrU.out.ext x)
                    rwa [show same (Lm.drop m4) (Lm.drop m4) = true from decide_eq_true rfl] at h9
                  have HFIN : Hid (∀ u, Ext U2 u → OwnAt w gx hb (k + 1) u) := Lib.hid fun u x => ⟨F4, s2, _, _, (HEP.out.ext x).more (by omega), fun j hj => (by
                    by_cases e : j = d
                    · subst e; exact HFI.out.1
                    · have := HOT.out j e
                      rw [show s2.wk j = _ from this, put_other s _ e]
                      exact HID.out j hj), (HRP.out.ext x).congr fun j hj => (by
                    by_cases e : j = d
                    · subst e; rw [updG_self]; exact HL3.out.symm
                    · rw [updG_other _ _ e, updG_other _ _ e]
                      have := HOT.out j e
                      unfold listsOf
                      rw [show s2.wk j = _ from this, put_other s _ e])⟩
                  clear OU2 e3 x2 xU cU fU rU
                  go_upto_region 22 with fail
                  go_cut [134] (fun v wd => v = .bool false ∧ OwnAt w gx hb (k + 1) wd)
                  case first =>
                    go_region_held3 (fun w' => w'.cell? ⟨hb, d, none⟩ = some (.slice aoD (n9 - m4) capD))
                      (first | assumption | (with_reducible exact drew_cell c2) | (with_reducible exact t2) | (with_reducible exact t3))
                      (first
                        | (go_at_call 22; (with_reducible refine (HH.out U2.drew (Ext.refl U2).drew).mono ?_); rintro e w9 ⟨A9, c9, rfl, r9, x9⟩; have t2 := ext_cell ((Ext.refl U2).drew.trans x9) c2; have X9 := Lib.hid ((Ext.refl U2).drew.trans x9); have R9 := Lib.hid r9; clear r9 x9)
                        | (go_at_call 21; (with_reducible refine (SI2.out w9 X9.out A9 c9 R9.out).mono ?_); rintro e w10 ⟨rfl, q10, rfl⟩; have t3 := ext_cell ((Ext.refl w9).drewN q10) t2))
                    all_goals
                      go_wp2_with fail
                      go_meet
                      exact ⟨rfl, HFIN.out _ (X9.out.trans ((Ext.refl w9).drewN q10))⟩
                  case rest =>
                    obtain ⟨rfl, hO⟩ := hcut
                    have HO := Lib.hid hO
                    clear hO c2
                    go_wp2_with fail
                    go_roundw
                    case rel => exact ⟨k + 1, hlt, h200, by go_num, HO.out⟩
                    case measure => simp [intOf]; omega
              · have q5 : ((o : Int) != 5) = true := by rw [bne_iff_ne]; omega
                have hth : ths = [] := l4' ho5x
                have hm0 : decide ((0 : Int) < (m4 : Int)) = false := decide_eq_false (by have := Hm4.out; rw [hth] at this; simp at this; omega)
                have hm0b : decide (0 < m4) = false := decide_eq_false (by have := of_decide_eq_false hm0; omega)
                clear ho5x l4 l4' hth
                go_wp2_with fail
                go_quiet ((go_at_call 21; exact quiet_q (SI.out _ ((Ext.refl wc).drewN _))))
                obtain ⟨U, hU⟩ : ∃ U, wc.drewN nq = U := ⟨_, rfl⟩
                have xU : Ext wc U := by rw [← hU]; exact (Ext.refl wc).drewN nq
                have cU := ext_cell xU cL
                have fU := frz_ext xU cL fL
                have rU := ext_cell xU r3
                (try rw [hU])
                clear hU cL fL r3
                go_upto_region 21 with fail
                go_region
                all_goals
                  have gs : GB U (U.setCell ⟨hb, d, none⟩ (.slice aoD (n9 - m4) capD)) (· = hb) := (GB.refl U (· = hb)).set hb d _ (.inl rfl)
                  have hD1 : (Lm.drop m4).length = n9 - m4 := by rw [List.length_drop, Hn9.out]
                  have RP := (HRM.out.ext xU).put (L' := Lm.drop m4) (v' := .slice aoD (n9 - m4) capD) (ob' := obD) hd3 (fun i hi => Nat.lt_of_lt_of_le (HEM.out.lt i hi) xU.size) (by have := H3W.out.2; have := xU.size; omega) (by rw [hD1, ivals_drop]; exact HOD.out.ext xU) (GB.of_ext _ (Ext.refl U)) (fun b hb9 => .inl (HobD.out b hb9))
                  have EP := (HEM.out.ext xU).gb gs (fun i hi e => HRM.out.1 (e ▸ hi)) (fun i e => e ▸ HRM.out.2.1)
                  obtain ⟨U2, hU2⟩ : ∃ U2, (U.setCell ⟨hb, d, none⟩ (.slice aoD (n9 - m4) capD)).drew = U2 := ⟨_, rfl⟩
                  have x2 : Ext (U.setCell ⟨hb, d, none⟩ (.slice aoD (n9 - m4) capD)) U2 := by rw [← hU2]; exact (Ext.refl _).drew
                  have HRP := Lib.hid (RP.ext x2); have HEP := Lib.hid (EP.ext x2)
                  have c2 : U2.cell? ⟨hb, d, none⟩ = some (.slice aoD (n9 - m4) capD) := by have := ((RP.ext x2).cell hd3).1; rwa [updG_self] at this
                  (try rw [hU2])
                  clear hU2 RP EP gs
                  have OU2 := (HRP.out.2.2.2.1 d hd3).1
                  rw [updG_self, updG_self, updG_self, hD1] at OU2
                  have hrU := Lib.hid OU2.rd
                  have e3 : (s2.wk d).held.map (·.1) = Lm.drop m4 := HL3.out
                  have HH : Hid (∀ u, Ext U2 u → Calls Try.prog 22 #[.pointer (some ⟨gx, 0, none⟩), .int .i64 (d : Int)] u fun e w' => ∃ A9 c9, e = .returned (.slice A9 (n9 - m4) c9) ∧ Rd w' A9 (ivals (Lm.drop m4)) ∧ Ext u w') := Lib.hid fun u x => (HEh.out u (HEP.out.ext x)).mono (by
                    rintro e w' ⟨A9, c9, rfl, o9, x9⟩
                    rw [e3] at o9 ⊢
                    rw [hD1] at o9 ⊢
                    exact ⟨A9, c9, rfl, own_rd o9, x9⟩)
                  have SI2 : Hid (∀ u, Ext U2 u → ∀ A9 c9, Rd u A9 (ivals (Lm.drop m4)) → Calls Try.prog 21 #[.slice A9 (n9 - m4) c9, .slice aoD (n9 - m4) capD] u (RetQ (.bool true) u)) := Lib.hid fun u x A9 c9 hr9 => by
                    have h9 := sameN_any A9 aoD (n9 - m4) c9 (n9 - m4) capD (Lm.drop m4) (Lm.drop m4) u hD1 hD1 (by omega) hr9 (hrU.out.ext x)
                    rwa [show same (Lm.drop m4) (Lm.drop m4) = true from decide_eq_true rfl] at h9
                  have HFIN : Hid (∀ u, Ext U2 u → OwnAt w gx hb (k + 1) u) := Lib.hid fun u x => ⟨F4, s2, _, _, (HEP.out.ext x).more (by omega), fun j hj => (by
                    by_cases e : j = d
                    · subst e; exact HFI.out.1
                    · have := HOT.out j e
                      rw [show s2.wk j = _ from this, put_other s _ e]
                      exact HID.out j hj), (HRP.out.ext x).congr fun j hj => (by
                    by_cases e : j = d
                    · subst e; rw [updG_self]; exact HL3.out.symm
                    · rw [updG_other _ _ e, updG_other _ _ e]
                      have := HOT.out j e
                      unfold listsOf
                      rw [show s2.wk j = _ from this, put_other s _ e])⟩
                  clear OU2 e3 x2 xU cU fU rU
                  go_upto_region 22 with fail
                  go_cut [134] (fun v wd => v = .bool false ∧ OwnAt w gx hb (k + 1) wd)
                  case first =>
                    go_region_held3 (fun w' => w'.cell? ⟨hb, d, none⟩ = some (.slice aoD (n9 - m4) capD))
                      (first | assumption | (with_reducible exact drew_cell c2) | (with_reducible exact t2) | (with_reducible exact t3))
                      (first
                        | (go_at_call 22; (with_reducible refine (HH.out U2.drew (Ext.refl U2).drew).mono ?_); rintro e w9 ⟨A9, c9, rfl, r9, x9⟩; have t2 := ext_cell ((Ext.refl U2).drew.trans x9) c2; have X9 := Lib.hid ((Ext.refl U2).drew.trans x9); have R9 := Lib.hid r9; clear r9 x9)
                        | (go_at_call 21; (with_reducible refine (SI2.out w9 X9.out A9 c9 R9.out).mono ?_); rintro e w10 ⟨rfl, q10, rfl⟩; have t3 := ext_cell ((Ext.refl w9).drewN q10) t2))
                    all_goals
                      go_wp2_with fail
                      go_meet
                      exact ⟨rfl, HFIN.out _ (X9.out.trans ((Ext.refl w9).drewN q10))⟩
                  case rest =>
                    obtain ⟨rfl, hO⟩ := hcut
                    have HO := Lib.hid hO
                    clear hO c2
                    go_wp2_with fail
                    go_roundw
                    case rel => exact ⟨k + 1, hlt, h200, by go_num, HO.out⟩
                    case measure => simp [intOf]; omega
          · have RN0 := erun_no w W F gx 3 (6 * k) d o (k : Int) s IW.out hd3 ho1 ho5 he
            have RN := Lib.hid RN0
            obtain ⟨pn, hpn⟩ : ∃ pn, Hid ((s.wk d).pinned = pn) := ⟨_, rfl⟩
            rw [hpn.out] at hcase
            clear RN0
            have hc2 : (o = 2 ∧ pn = false) ∨ (o = 1 ∧ pn = true) := by
              rcases hcase with ⟨a, b, _⟩ | ⟨a, b, _⟩ | ⟨a, _⟩
              · exact .inl ⟨a, b⟩
              · exact .inr ⟨a, b⟩
              · exact absurd a he
            clear hcase he
            rcases hc2 with ⟨ho2, hpf⟩ | ⟨ho2, hpf⟩
            · have q1 : ((o : Int) != 1) = true := by rw [bne_iff_ne]; omega
              have q2 : ((o : Int) != 2) = false := by rw [bne_eq_false_iff_eq]; omega
              have HPF := Lib.hid (hpn.out.trans hpf)
              clear ho2 hpf
              go_wp2_with fail
              (try rw [hW])
              clear hW c0 c1 c2
              refine RN.out.mono ?_
              rintro e w4 ⟨rfl, F4, i4, g4, f4⟩
              have xa : Ext w4 (w4.alloc (.cells #[.bool false, .int .i64 0, .int .i64 0, .slice none 0 0] 36)) := (Ext.refl w4).alloc _
              have PN0 := ein_pinned w _ F4 gx 3 (6 * k) d s (i4.ext xa) hd3
              rw [HPF.out] at PN0
              have PN := Lib.hid PN0
              have FIN := Lib.hid (show OwnAt w gx hb (k + 1) (w4.alloc (.cells #[.bool false, .int .i64 0, .int .i64 0, .slice none 0 0] 36)) from ⟨F4, s, vs, bs, (i4.ext xa).more (by omega), HID.out, (RW.out.go g4 f4).ext xa⟩)
              clear i4 g4 f4 xa PN0
              go_wp2_with fail
              refine PN.out.mono ?_
              rintro e w5 ⟨rfl, rfl⟩
              go_wp2_with fail
              go_roundw
              case rel => exact ⟨k + 1, hlt, h200, by go_num, FIN.out⟩
              case measure => simp [intOf]; omega
            · have q1 : ((o : Int) != 1) = false := by rw [bne_eq_false_iff_eq]; omega
              have HPF := Lib.hid (hpn.out.trans hpf)
              clear ho2 hpf
              go_wp2_with fail
              (try rw [hW])
              clear hW c0 c1 c2
              refine RN.out.mono ?_
              rintro e w4 ⟨rfl, F4, i4, g4, f4⟩
              have xa : Ext w4 (w4.alloc (.cells #[.bool false, .int .i64 0, .int .i64 0, .slice none 0 0] 36)) := (Ext.refl w4).alloc _
              have PN0 := ein_pinned w _ F4 gx 3 (6 * k) d s (i4.ext xa) hd3
              rw [HPF.out] at PN0
              have PN := Lib.hid PN0
              have FIN := Lib.hid (show OwnAt w gx hb (k + 1) (w4.alloc (.cells #[.bool false, .int .i64 0, .int .i64 0, .slice none 0 0] 36)) from ⟨F4, s, vs, bs, (i4.ext xa).more (by omega), HID.out, (RW.out.go g4 f4).ext xa⟩)
              clear i4 g4 f4 xa PN0
              go_wp2_with fail
              refine PN.out.mono ?_
              rintro e w5 ⟨rfl, rfl⟩
              go_wp2_with fail
              go_roundw
              case rel => exact ⟨k + 1, hlt, h200, by go_num, FIN.out⟩
              case measure => simp [intOf]; omega
        · have HX := Lib.hid HI.out.out
          go_wp2_with fail
          go_meet
          exact HX.out.alloc _
      · have HX := Lib.hid hI.out
        clear hI
        go_wp2_with fail
        go_meet
        exact HX.out
  case rest =>
    go_wp2_with fail
    go_ret
    exact retTrue hcut
end Go.Proofs.Ytlgggeeflomelaa
