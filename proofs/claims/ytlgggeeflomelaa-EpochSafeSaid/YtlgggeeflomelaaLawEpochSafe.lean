/- EpochSafe answers true. -/
import Derived.Test.YtlgggeeflomelaaSmem
import Derived.Test.YtlgggeeflomelaaEpPick
import Derived.Test.YtlgggeeflomelaaFrame
import Derived.Deep.LoopGhost
import Derived.Deep.CutBlock
namespace Go.Proofs.Ytlgggeeflomelaa
open Go.RowKit

set_option maxHeartbeats 4000000 in
set_option maxRecDepth 100000 in
theorem epochSafe_walk (w : World) (A : Option Addr) (m c : Nat) (R : List (List Int)) (hl : R.length = m) (hk : RecsOk epickKs R) (hr : Rd w A (R.flatMap (recVals epickKs))) (_hnc : m ≤ c) (_hz : m ≤ 8796093021952) :
    Calls Try.prog 7 #[.slice A m c] w (RetTrue w) := by
  have Hl := Lib.hid hl; have Hk := Lib.hid hk; have Hr := Lib.hid hr
  clear hl hk hr
  have hmk : ∀ u : World, (Instr.makeSlice 34 (.int .i64 4) (.int .i64 4)).run Try.prog u = .ok (.slice (some ⟨u.heap.size, 0, none⟩) 4 4) (u.alloc (.cells (madeCells #[.int .i64 0] 4) 3)) := run_make_row' (P := Try.prog) 34 3 (.int .i64 0) 8 Try.underlying34 info_int9 rfl .i64 .i64 4 (by omega) (by omega)
  go_enter Try.func7, Try.ntmps7
  go_wp2_with fail
  refine (epAwake w).mono ?_
  rintro e w1 ⟨rfl, hx1⟩
  go_wp2_with fail
  refine (ein_new 4 w w1 hx1 (by omega) (by omega)).mono ?_
  rintro e w2 ⟨gx, F2, rfl, h2, _⟩
  obtain ⟨tb, Htb⟩ : ∃ tb, Hid (w2.heap.size = tb) := ⟨_, rfl⟩
  have htb := Htb.out
  have H2 := Lib.hid (show SafeRd w gx tb 0 (.slice none 0 0) (w2.alloc (.cells (wtCells wt0 (.slice none 0 0) (.slice none 0 0)).toArray 63)) from
    smem_new (h2.ext ((Ext.refl w2).alloc _)) (by rw [← htb]; exact blk_new w2 _) (by have := h2.out.size; omega) (fun e => by have := h2.lt _ e; omega))
  clear h2 htb
  go_upto_block 0 with fail
  (try rw [Htb.out])
  obtain ⟨W2, hW2⟩ : ∃ W2, (w2.alloc (.cells (wtCells wt0 (.slice none 0 0) (.slice none 0 0)).toArray 63)) = W2 := ⟨_, rfl⟩
  have hW2' : (w2.alloc (.cells #[.int .u8 0, .int .u8 0, .int .u8 0, .int .u8 0, .int .i64 0, .int .i64 0, .int .i64 0, .int .i64 0, .int .i64 0, .int .i64 0, .int .i64 0, .int .i64 0, .slice none 0 0, .slice none 0 0, .int .i64 0] 63)) = W2 := hW2
  rw [hW2] at H2
  (try rw [hW2'])
  clear hW2 hW2' Htb
  go_cut [6] (fun v6 wd => ∃ K vo, vo = v6 ∧ K ≤ 800 ∧ SafeRd w gx tb K vo wd)
  case first =>
    go_wp2_with fail
    go_loopw [6, 37] (fun v6 i wr => ∃ (k : Nat) (vo : Value), vo = v6 ∧ k ≤ m ∧ k ≤ 400 ∧ i = .int .i64 (k : Int) ∧ SafeRd w gx tb (2 * k) vo wr) (fun _ i _ => m - (intOf i).toNat)
    case atStart => exact ⟨0, _, rfl, Nat.zero_le _, by omega, rfl, H2.out⟩
    case round =>
      obtain ⟨k, vo, rfl, hk, hk2, rfl, hI⟩ := hrel
      have HI := Lib.hid hI
      by_cases hlt : k < m
      · obtain ⟨r, hr⟩ : ∃ r, R[k]? = some r := ⟨_, List.getElem?_eq_getElem (by rw [Hl.out]; exact hlt)⟩
        obtain ⟨who, op, th, rfl, hwho, hop, hth⟩ := epick_row Hk.out hr
        obtain ⟨b, off, hA, _, c0, c1, c2⟩ := epick_cells (Hr.out.ext hI.out) Hk.out hr
        subst hA
        clear hr
        by_cases h400 : k < 400
        · obtain ⟨u, d, hu, hd0, hd4⟩ := umod (who := who) 4 (by omega)
          have hd : (u : Int) % 4 = (d : Int) := hd0
          clear hd0
          obtain ⟨F, s, t, own, n, vg, vk, hM0, hR0⟩ := hI
          obtain ⟨W, hW⟩ : ∃ W, wr.alloc (.cells #[.int .i64 who, .int .u8 (op : Int), .int .i64 th] 29) = W := ⟨_, rfl⟩
          have xW : Ext wr W := by rw [← hW]; exact (Ext.refl wr).alloc _
          have KP := Lib.hid (show W.heap[wr.heap.size]? = some (.cells #[.int .i64 who, .int .u8 (op : Int), .int .i64 th] 29 (0, 0)) by rw [← hW]; exact blk_new wr _)
          have e0 : W.cell? ⟨wr.heap.size, 0, none⟩ = some (.int .i64 who) := blk_cell KP.out 0
          have e1 : W.cell? ⟨wr.heap.size, 1, none⟩ = some (.int .u8 (op : Int)) := blk_cell KP.out 1
          have MW := Lib.hid (hM0.ext xW); have HR := Lib.hid hR0
          clear hM0 hR0
          have ht800 : t.time ≤ 50000 := by have := MW.out.time; omega
          by_cases hop0 : op = 0
          · have hopb : ((op : Int) == 0) = true := by rw [beq_iff_eq]; omega
            have WS := Lib.hid (wstep_ok w W F gx tb (2 * k) d 4 n s t own vg vk MW.out.e MW.out.m HR.out hd4 (.inl rfl) MW.out.dis (by omega) ht800)
            clear hop0 ht800
            go_wp2_with fail
            (try rw [hW])
            clear hW c0 c1 c2
            refine WS.out.mono ?_
            rintro e w3 hp
            obtain ⟨rfl, F3, t3, hM3, hR3⟩ := MW.out.step hp
            have FIN := Lib.hid (show SafeRd w gx tb (2 * (k + 1)) vo w3 from ⟨F3, _, t3, own, n, vg, vk, hM3.more (by omega), hR3⟩)
            clear hp hM3 hR3
            go_wp2_with fail
            go_roundw
            case rel => exact ⟨k + 1, _, rfl, hlt, h400, by go_num, FIN.out⟩
            case measure => simp [intOf]; omega
          · have hopb : ((op : Int) == 0) = false := by rw [beq_eq_false_iff_ne]; omega
            obtain ⟨o, ho, ho1, ho5⟩ : ∃ o : Nat, (1 : Int) + (op : Int) % 5 = (o : Int) ∧ 1 ≤ o ∧ o ≤ 5 := ⟨1 + op % 5, by omega, by omega, by omega⟩
            obtain ⟨gA, gc, rfl, hgc⟩ := own_shape MW.out.m.og
            have y12 := MW.out.m.c12
            have ST := ein_start w W F gx 4 (2 * k) d o (n : Int) s MW.out.e hd4 ho1 ho5
            unfold startSt at ST
            clear hop0
            by_cases he : startErr s d o = 0
            · rw [if_pos he, he] at ST
              have HER := Lib.hid he
              have STh := Lib.hid ST
              clear ST he
              go_wp2_with fail
              (try rw [hW])
              clear hW c0 c1 c2
              refine STh.out.mono ?_
              rintro e w4 ⟨rfl, hgo⟩
              obtain ⟨F4, hM4⟩ := MW.out.go (Nat.le_refl _) hgo
              have M4 := Lib.hid hM4
              clear hgo hM4
              obtain ⟨hidle, hpn1, hpn2⟩ := start_idle HER.out
              have o4 := M4.out.m.cOps hd4; have b4 := M4.out.m.cBegun hd4; have fo4 := M4.out.m.frz d; have fb4 := M4.out.m.frz (4 + d)
              have M5 := Lib.hid (show SMem w gx tb (2 * k) F4 (s.put d { s.wk d with call := .begun o (n : Int) }) { t with ops := t.ops.set d o, begun := t.begun.set d 0 } own n (.slice gA n gc) vk vo ((w4.setCell ⟨tb, d, none⟩ (.int .u8 (o : Int))).setCell ⟨tb, 4 + d, none⟩ (.int .i64 0)).drew from
                (M4.out.wt (t' := { t with ops := t.ops.set d o, begun := t.begun.set d 0 }) (w' := ((w4.setCell ⟨tb, d, none⟩ (.int .u8 (o : Int))).setCell ⟨tb, 4 + d, none⟩ (.int .i64 0))) ((M4.out.m.putOps hd4 o).putBegun hd4 0) (((GB.refl w4 _).set tb d _ (.inl (.inl rfl))).set tb (4 + d) _ (.inl (.inl rfl))) M4.out.time).ext (Ext.refl _).drew)
              obtain ⟨W5, hW5⟩ : ∃ W5, ((w4.setCell ⟨tb, d, none⟩ (.int .u8 (o : Int))).setCell ⟨tb, 4 + d, none⟩ (.int .i64 0)).drew = W5 := ⟨_, rfl⟩
              rw [hW5] at M5
              go_upto_region 18 with fail
              go_region
              all_goals
                (try rw [hW5])
                clear hW5 o4 b4 fo4 fb4 y12
                by_cases ho3 : o = 3
                · have q3 : ((o : Int) == 3) = true := by rw [beq_iff_eq]; omega
                  have HO3 := Lib.hid ho3
                  clear ho3
                  obtain ⟨kA, kc, rfl, hkc⟩ := own_shape M5.out.m.ok
                  obtain ⟨oA, oc, rfl, hoc⟩ := own_shape M5.out.o
                  go_upto_region 20 with fail
                  go_cut [6] (fun v6 wd => ∃ vg' vk' vo', vo' = v6 ∧ SMem w gx tb (2 * k + 1) F4 (s.put d { s.wk d with call := .begun o (n : Int) }) { t with ops := t.ops.set d o, begun := t.begun.set d 0, given := t.given ++ [0], taken := t.taken ++ [0] } (own ++ [d]) (n + 1) vg' vk' vo' wd)
                  case first =>
                    have y12 := M5.out.m.c12; have y13 := M5.out.m.c13
                    have nbt := M5.out.nb
                    have hn5 : n ≤ 100000 := by have := M5.out.len; omega
                    have hb5 : w.heap.size ≤ W5.heap.size := M5.out.out.size
                    refine wp_region_k (fun w' => w'.cell? ⟨tb, 12, none⟩ = some (.slice gA n gc) ∧ w'.cell? ⟨tb, 13, none⟩ = some (.slice kA n kc)) [20, 23] (by kernel_rfl) ?_
                    have A0 := M5.out.ap3.drew
                    have hHeld := And.intro (A0.cell y12 nbt) (A0.cell y13 nbt)
                    generalize W5.drew = U at A0 hHeld ⊢
                    refine wpAnyK_free (i := 0) (oi := _) (v := ?_) rfl (by kernel_rfl) (by kernel_rfl) (by kernel_rfl) (by kernel_rfl) (fun _ _ _ h => h) (Or.inl ⟨by rfl, ?_⟩) (HeldT.of hHeld) ?_
                    rotate_left
                    · intro w _; go_simp
                      (try with_reducible rfl)
                    (try simp only [Act.put])
                    refine wpAnyK_free (i := 1) (oi := _) (v := ?_) rfl (by kernel_rfl) (by kernel_rfl) (by kernel_rfl) (by kernel_rfl) (fun _ _ _ h => h) (Or.inl ⟨by rfl, ?_⟩) (HeldT.of hHeld) ?_
                    rotate_left
                    · intro w _; go_simp
                      (try with_reducible rfl)
                    (try simp only [Act.put])
                    refine wpAnyK_free (i := 2) (oi := _) (v := ?_) rfl (by kernel_rfl) (by kernel_rfl) (by kernel_rfl) (by kernel_rfl) (fun _ _ _ h => h) (Or.inl ⟨by rfl, ?_⟩) (HeldT.of hHeld) ?_
                    rotate_left
                    · intro w _; go_simp
                      (try with_reducible rfl)
                    (try simp only [Act.put])
                    refine wpAnyK_free (i := 8) (oi := _) (v := ?_) rfl (by kernel_rfl) (by kernel_rfl) (by kernel_rfl) (by kernel_rfl) (fun _ _ _ h => h) (Or.inl ⟨by rfl, ?_⟩) (HeldT.of hHeld) ?_
                    rotate_left
                    · intro w _; go_simp
                      (try with_reducible rfl)
                    (try simp only [Act.put])
                    refine wpAnyK_free (i := 14) (oi := _) (v := ?_) rfl (by kernel_rfl) (by kernel_rfl) (by kernel_rfl) (by kernel_rfl) (fun _ _ _ h => h) (Or.inl ⟨by rfl, ?_⟩) (HeldT.of hHeld) ?_
                    rotate_left
                    · intro w _; go_simp
                      (try with_reducible rfl)
                    (try simp only [Act.put])
                    refine wpAnyK_free (i := 15) (oi := _) (v := ?_) rfl (by kernel_rfl) (by kernel_rfl) (by kernel_rfl) (by kernel_rfl) (fun _ _ _ h => h) (Or.inl ⟨by rfl, ?_⟩) (HeldT.of hHeld) ?_
                    rotate_left
                    · intro w _; go_simp
                      (try with_reducible rfl)
                    (try simp only [Act.put])
                    refine wpAnyK_take 20 (i := 3) (oi := _) (v := ?_) rfl (by kernel_rfl) (by kernel_rfl) (by kernel_rfl) (by kernel_rfl) (by kernel_rfl) (fun _ _ _ h => h) (Or.inl ⟨by rfl, ?_⟩) (by assumption) ?_
                    rotate_left
                    · intro w hSw; (try dsimp only at hSw); go_simp
                      (try with_reducible rfl)
                    (try simp only [Act.put])
                    refine wpAnyK_take 20 (i := 4) (oi := _) (v := ?_) rfl (by kernel_rfl) (by kernel_rfl) (by kernel_rfl) (by kernel_rfl) (by kernel_rfl) (fun _ _ _ h => h) (Or.inl ⟨by rfl, ?_⟩) (by assumption) ?_
                    rotate_left
                    · intro w hSw; (try dsimp only at hSw); go_simp
                      (try with_reducible rfl)
                    (try simp only [Act.put])
                    refine wpAnyK_take 20 (i := 5) (oi := _) (v := ?_) rfl (by kernel_rfl) (by kernel_rfl) (by kernel_rfl) (by kernel_rfl) (by kernel_rfl) (fun _ _ _ h => h) (Or.inl ⟨by rfl, ?_⟩) (by assumption) ?_
                    rotate_left
                    · intro w hSw; (try dsimp only at hSw); go_simp
                      (try with_reducible rfl)
                    (try simp only [Act.put])
                    refine wpAnyK_take 20 (i := 9) (oi := _) (v := ?_) rfl (by kernel_rfl) (by kernel_rfl) (by kernel_rfl) (by kernel_rfl) (by kernel_rfl) (fun _ _ _ h => h) (Or.inl ⟨by rfl, ?_⟩) (by assumption) ?_
                    rotate_left
                    · intro w hSw; (try dsimp only at hSw); go_simp
                      (try with_reducible rfl)
                    (try simp only [Act.put])
                    refine wpAnyK_take 20 (i := 10) (oi := _) (v := ?_) rfl (by kernel_rfl) (by kernel_rfl) (by kernel_rfl) (by kernel_rfl) (by kernel_rfl) (fun _ _ _ h => h) (Or.inl ⟨by rfl, ?_⟩) (by assumption) ?_
                    rotate_left
                    · intro w hSw; (try dsimp only at hSw); go_simp
                      (try with_reducible rfl)
                    (try simp only [Act.put])
                    refine wpAnyK_take 20 (i := 11) (oi := _) (v := ?_) rfl (by kernel_rfl) (by kernel_rfl) (by kernel_rfl) (by kernel_rfl) (by kernel_rfl) (fun _ _ _ h => h) (Or.inl ⟨by rfl, ?_⟩) (by assumption) ?_
                    rotate_left
                    · intro w hSw; (try dsimp only at hSw); go_simp
                      (try with_reducible rfl)
                    (try simp only [Act.put])
                    refine wpAnyK_ready (rs := [6, 12, 16]) (by kernel_rfl) (by simp) (AllReadyK.cons (o := _) rfl (fun K hK => ?_) (AllReadyK.cons (o := _) rfl (fun K hK => ?_) (AllReadyK.cons (o := _) rfl (fun K hK => ?_) AllReadyK.nil)))
                    · have A1 := A0.build (.int .i64 0) (k := U.heap.size) (by rfl)
                      go_simp
                      refine hK.out _ _ ⟨A1.cell y12 nbt, A1.cell y13 nbt⟩ ?_
                      clear hK K
                      (try simp only [Act.put])
                      refine wpAnyK_ready (rs := [7, 12, 16]) (by kernel_rfl) (by simp) (AllReadyK.cons (o := _) rfl (fun K hK => ?_) (AllReadyK.cons (o := _) rfl (fun K hK => ?_) (AllReadyK.cons (o := _) rfl (fun K hK => ?_) AllReadyK.nil)))
                      · refine step_app_int9 (y := .int .i64 0) (U.alloc (.cells #[.int .i64 0] 3)) rfl (.tmp 89) (.tmp 90) rfl w.heap.size (by rfl) A1.o1 (by rfl) (A1.bs (U.heap.size, .int .i64 0) (.head _)).1 rfl hn5 (Nat.le_trans hb5 A1.gb.size) ?_
                        intro B1 cB1 z1 oB gB bB
                        have A2 := A1.app1 oB gB bB
                        clear oB gB bB
                        refine hK.out _ _ ⟨A2.cell y12 nbt, A2.cell y13 nbt⟩ ?_
                        clear hK K
                        (try simp only [Act.put])
                        refine wpAnyK_ready (rs := [12, 16]) (by kernel_rfl) (by simp) (AllReadyK.cons (o := _) rfl (fun K hK => ?_) (AllReadyK.cons (o := _) rfl (fun K hK => ?_) AllReadyK.nil))
                        · have A3 := A2.build (.int .i64 0) (k := z1.heap.size) (by rfl)
                          go_simp
                          refine hK.out _ _ ⟨A3.cell y12 nbt, A3.cell y13 nbt⟩ ?_
                          clear hK K
                          (try simp only [Act.put])
                          refine wpAnyK_ready (rs := [13, 16]) (by kernel_rfl) (by simp) (AllReadyK.cons (o := _) rfl (fun K hK => ?_) (AllReadyK.cons (o := _) rfl (fun K hK => ?_) AllReadyK.nil))
                          · refine step_app_int9 (y := .int .i64 0) (z1.alloc (.cells #[.int .i64 0] 3)) rfl (.tmp 95) (.tmp 96) rfl w.heap.size (by rfl) A3.o2 (by rfl) (A3.bs (z1.heap.size, .int .i64 0) (.head _)).1 rfl hn5 (Nat.le_trans hb5 A3.gb.size) ?_
                            intro B2 cB2 z2 oB gB bB
                            have A4 := A3.app2 oB gB bB
                            clear oB gB bB
                            refine hK.out _ _ ⟨A4.cell y12 nbt, A4.cell y13 nbt⟩ ?_
                            clear hK K
                            (try simp only [Act.put])
                            refine wpAnyK_ready (rs := [16]) (by kernel_rfl) (by simp) (AllReadyK.cons (o := _) rfl (fun K hK => ?_) AllReadyK.nil)
                            have A5 := A4.build (.int .i64 (d : Int)) (k := z2.heap.size) (by rfl)
                            go_simp
                            refine hK.out _ _ ⟨A5.cell y12 nbt, A5.cell y13 nbt⟩ ?_
                            clear hK K
                            (try simp only [Act.put])
                            refine wpAnyK_ready (rs := [17]) (by kernel_rfl) (by simp) (AllReadyK.cons (o := _) rfl (fun K hK => ?_) AllReadyK.nil)
                            refine step_app_int9 (y := .int .i64 (d : Int)) (z2.alloc (.cells #[.int .i64 (d : Int)] 3)) rfl (.tmp 98) (.tmp 100) rfl w.heap.size (by rfl) A5.o3 (by rfl) (A5.bs (z2.heap.size, .int .i64 (d : Int)) (.head _)).1 rfl hn5 (Nat.le_trans hb5 A5.gb.size) ?_
                            intro B3 cB3 z3 oB gB bB
                            have A6 := A5.app3 oB gB bB
                            clear oB gB bB
                            refine hK.out _ _ ⟨A6.cell y12 nbt, A6.cell y13 nbt⟩ ?_
                            clear hK K
                            (try simp only [Act.put])
                            refine wpAnyK_free (i := 18) (oi := _) (v := ?_) rfl (by kernel_rfl) (by kernel_rfl) (by kernel_rfl) (by kernel_rfl) (fun _ _ _ h => h) (Or.inl ⟨by rfl, ?_⟩) (HeldT.of ⟨A6.cell y12 nbt, A6.cell y13 nbt⟩) ?_
                            rotate_left
                            · intro w _; go_simp
                              (try with_reducible rfl)
                            (try simp only [Act.put])
                            refine wpAnyK_free (i := 19) (oi := _) (v := ?_) rfl (by kernel_rfl) (by kernel_rfl) (by kernel_rfl) (by kernel_rfl) (fun _ _ _ h => h) (Or.inl ⟨by rfl, ?_⟩) (HeldT.of ⟨A6.cell y12 nbt, A6.cell y13 nbt⟩) ?_
                            rotate_left
                            · intro w _; go_simp
                              (try with_reducible rfl)
                            (try simp only [Act.put])
                            have bA := A6.gb.blk M5.out.m.blk nbt
                            have g12 := A6.cell y12 nbt; have g13 := A6.cell y13 nbt; have f12 := blk_frozen bA 12
                            have h13 : (z3.setCell ⟨tb, 12, none⟩ (.slice B1 (n + 1) cB1)).cell? ⟨tb, 13, none⟩ = _ := (World.cell?_setCell_other z3 ⟨tb, 12, none⟩ ⟨tb, 13, none⟩ _ (by simp)).trans g13
                            have f13 : (z3.setCell ⟨tb, 12, none⟩ (.slice B1 (n + 1) cB1)).frozen? ⟨tb, 13, none⟩ = false := blk_frozen (blk_set bA 12 _) 13
                            have FA := Lib.hid A6
                            refine wpAnyK_ready (rs := [20]) (by kernel_rfl) (by simp) (AllReadyK.last (o := _) (by kernel_rfl) rfl (fun K hK => ?_) AllReadyK.nil)
                            go_simp
                            refine hK.out _ _ ?_
                            clear hK K
                            (try simp only [Act.put])
                            refine wpAnyK_free (i := 21) (oi := _) (v := ?_) rfl (by kernel_rfl) (by kernel_rfl) (by kernel_rfl) (by kernel_rfl) (fun _ _ _ h => h) (Or.inl ⟨by rfl, ?_⟩) (HeldT.past (by kernel_rfl)) ?_
                            rotate_left
                            · intro w _; go_simp
                              (try with_reducible rfl)
                            (try simp only [Act.put])
                            refine wpAnyK_free (i := 22) (oi := _) (v := ?_) rfl (by kernel_rfl) (by kernel_rfl) (by kernel_rfl) (by kernel_rfl) (fun _ _ _ h => h) (Or.inl ⟨by rfl, ?_⟩) (HeldT.past (by kernel_rfl)) ?_
                            rotate_left
                            · intro w _; go_simp
                              (try with_reducible rfl)
                            (try simp only [Act.put])
                            refine wpAnyK_ready (rs := [23]) (by kernel_rfl) (by simp) (AllReadyK.last (o := _) (by kernel_rfl) rfl (fun K hK => ?_) AllReadyK.nil)
                            go_simp
                            refine hK.out _ _ ?_
                            clear hK K
                            (try simp only [Act.put])
                            refine wpAnyK_ready (rs := [24]) (by kernel_rfl) (by simp) (AllReadyK.last (o := _) (by kernel_rfl) rfl (fun K hK => ?_) AllReadyK.nil)
                            go_simp
                            refine hK.out _ _ ?_
                            clear hK K
                            (try simp only [Act.put])
                            refine wpAnyK_done (by kernel_rfl) ?_ _
                            go_wp2_with fail
                            go_meet
                            exact ⟨_, _, _, rfl, M5.out.rows FA.out⟩
                          · have A4 := A3.build (.int .i64 (d : Int)) (k := z1.heap.size + 1) (by simp)
                            go_simp
                            refine hK.out _ _ ⟨A4.cell y12 nbt, A4.cell y13 nbt⟩ ?_
                            clear hK K
                            (try simp only [Act.put])
                            refine wpAnyK_ready (rs := [13]) (by kernel_rfl) (by simp) (AllReadyK.cons (o := _) rfl (fun K hK => ?_) AllReadyK.nil)
                            refine step_app_int9 (y := .int .i64 0) ((z1.alloc (.cells #[.int .i64 0] 3)).alloc (.cells #[.int .i64 (d : Int)] 3)) rfl (.tmp 95) (.tmp 96) rfl w.heap.size (by rfl) A4.o2 (by rfl) (A4.bs (z1.heap.size, .int .i64 0) (.tail _ (.head _))).1 rfl hn5 (Nat.le_trans hb5 A4.gb.size) ?_
                            intro B2 cB2 z2 oB gB bB
                            have A5 := A4.app2 oB gB bB
                            clear oB gB bB
                            refine hK.out _ _ ⟨A5.cell y12 nbt, A5.cell y13 nbt⟩ ?_
                            clear hK K
                            (try simp only [Act.put])
                            refine wpAnyK_ready (rs := [17]) (by kernel_rfl) (by simp) (AllReadyK.cons (o := _) rfl (fun K hK => ?_) AllReadyK.nil)
                            refine step_app_int9 (y := .int .i64 (d : Int)) z2 rfl (.tmp 98) (.tmp 100) rfl w.heap.size (by rfl) A5.o3 (by rfl) (A5.bs (z1.heap.size + 1, .int .i64 (d : Int)) (.head _)).1 rfl hn5 (Nat.le_trans hb5 A5.gb.size) ?_
                            intro B3 cB3 z3 oB gB bB
                            have A6 := A5.app3 oB gB bB
                            clear oB gB bB
                            refine hK.out _ _ ⟨A6.cell y12 nbt, A6.cell y13 nbt⟩ ?_
                            clear hK K
                            (try simp only [Act.put])
                            refine wpAnyK_free (i := 18) (oi := _) (v := ?_) rfl (by kernel_rfl) (by kernel_rfl) (by kernel_rfl) (by kernel_rfl) (fun _ _ _ h => h) (Or.inl ⟨by rfl, ?_⟩) (HeldT.of ⟨A6.cell y12 nbt, A6.cell y13 nbt⟩) ?_
                            rotate_left
                            · intro w _; go_simp
                              (try with_reducible rfl)
                            (try simp only [Act.put])
                            refine wpAnyK_free (i := 19) (oi := _) (v := ?_) rfl (by kernel_rfl) (by kernel_rfl) (by kernel_rfl) (by kernel_rfl) (fun _ _ _ h => h) (Or.inl ⟨by rfl, ?_⟩) (HeldT.of ⟨A6.cell y12 nbt, A6.cell y13 nbt⟩) ?_
                            rotate_left
                            · intro w _; go_simp
                              (try with_reducible rfl)
                            (try simp only [Act.put])
                            have bA := A6.gb.blk M5.out.m.blk nbt
                            have g12 := A6.cell y12 nbt; have g13 := A6.cell y13 nbt; have f12 := blk_frozen bA 12
                            have h13 : (z3.setCell ⟨tb, 12, none⟩ (.slice B1 (n + 1) cB1)).cell? ⟨tb, 13, none⟩ = _ := (World.cell?_setCell_other z3 ⟨tb, 12, none⟩ ⟨tb, 13, none⟩ _ (by simp)).trans g13
                            have f13 : (z3.setCell ⟨tb, 12, none⟩ (.slice B1 (n + 1) cB1)).frozen? ⟨tb, 13, none⟩ = false := blk_frozen (blk_set bA 12 _) 13
                            have FA := Lib.hid A6
                            refine wpAnyK_ready (rs := [20]) (by kernel_rfl) (by simp) (AllReadyK.last (o := _) (by kernel_rfl) rfl (fun K hK => ?_) AllReadyK.nil)
                            go_simp
                            refine hK.out _ _ ?_
                            clear hK K
                            (try simp only [Act.put])
                            refine wpAnyK_free (i := 21) (oi := _) (v := ?_) rfl (by kernel_rfl) (by kernel_rfl) (by kernel_rfl) (by kernel_rfl) (fun _ _ _ h => h) (Or.inl ⟨by rfl, ?_⟩) (HeldT.past (by kernel_rfl)) ?_
                            rotate_left
                            · intro w _; go_simp
                              (try with_reducible rfl)
                            (try simp only [Act.put])
                            refine wpAnyK_free (i := 22) (oi := _) (v := ?_) rfl (by kernel_rfl) (by kernel_rfl) (by kernel_rfl) (by kernel_rfl) (fun _ _ _ h => h) (Or.inl ⟨by rfl, ?_⟩) (HeldT.past (by kernel_rfl)) ?_
                            rotate_left
                            · intro w _; go_simp
                              (try with_reducible rfl)
                            (try simp only [Act.put])
                            refine wpAnyK_ready (rs := [23]) (by kernel_rfl) (by simp) (AllReadyK.last (o := _) (by kernel_rfl) rfl (fun K hK => ?_) AllReadyK.nil)
                            go_simp
                            refine hK.out _ _ ?_
                            clear hK K
                            (try simp only [Act.put])
                            refine wpAnyK_ready (rs := [24]) (by kernel_rfl) (by simp) (AllReadyK.last (o := _) (by kernel_rfl) rfl (fun K hK => ?_) AllReadyK.nil)
                            go_simp
                            refine hK.out _ _ ?_
                            clear hK K
                            (try simp only [Act.put])
                            refine wpAnyK_done (by kernel_rfl) ?_ _
                            go_wp2_with fail
                            go_meet
                            exact ⟨_, _, _, rfl, M5.out.rows FA.out⟩
                        · have A3 := A2.build (.int .i64 (d : Int)) (k := z1.heap.size) (by rfl)
                          go_simp
                          refine hK.out _ _ ⟨A3.cell y12 nbt, A3.cell y13 nbt⟩ ?_
                          clear hK K
                          (try simp only [Act.put])
                          refine wpAnyK_ready (rs := [12]) (by kernel_rfl) (by simp) (AllReadyK.cons (o := _) rfl (fun K hK => ?_) AllReadyK.nil)
                          have A4 := A3.build (.int .i64 0) (k := z1.heap.size + 1) (by simp)
                          go_simp
                          refine hK.out _ _ ⟨A4.cell y12 nbt, A4.cell y13 nbt⟩ ?_
                          clear hK K
                          (try simp only [Act.put])
                          refine wpAnyK_ready (rs := [13]) (by kernel_rfl) (by simp) (AllReadyK.cons (o := _) rfl (fun K hK => ?_) AllReadyK.nil)
                          refine step_app_int9 (y := .int .i64 0) ((z1.alloc (.cells #[.int .i64 (d : Int)] 3)).alloc (.cells #[.int .i64 0] 3)) rfl (.tmp 95) (.tmp 96) rfl w.heap.size (by rfl) A4.o2 (by rfl) (A4.bs (z1.heap.size + 1, .int .i64 0) (.head _)).1 rfl hn5 (Nat.le_trans hb5 A4.gb.size) ?_
                          intro B2 cB2 z2 oB gB bB
                          have A5 := A4.app2 oB gB bB
                          clear oB gB bB
                          refine hK.out _ _ ⟨A5.cell y12 nbt, A5.cell y13 nbt⟩ ?_
                          clear hK K
                          (try simp only [Act.put])
                          refine wpAnyK_ready (rs := [17]) (by kernel_rfl) (by simp) (AllReadyK.cons (o := _) rfl (fun K hK => ?_) AllReadyK.nil)
                          refine step_app_int9 (y := .int .i64 (d : Int)) z2 rfl (.tmp 98) (.tmp 100) rfl w.heap.size (by rfl) A5.o3 (by rfl) (A5.bs (z1.heap.size, .int .i64 (d : Int)) (.tail _ (.head _))).1 rfl hn5 (Nat.le_trans hb5 A5.gb.size) ?_
                          intro B3 cB3 z3 oB gB bB
                          have A6 := A5.app3 oB gB bB
                          clear oB gB bB
                          refine hK.out _ _ ⟨A6.cell y12 nbt, A6.cell y13 nbt⟩ ?_
                          clear hK K
                          (try simp only [Act.put])
                          refine wpAnyK_free (i := 18) (oi := _) (v := ?_) rfl (by kernel_rfl) (by kernel_rfl) (by kernel_rfl) (by kernel_rfl) (fun _ _ _ h => h) (Or.inl ⟨by rfl, ?_⟩) (HeldT.of ⟨A6.cell y12 nbt, A6.cell y13 nbt⟩) ?_
                          rotate_left
                          · intro w _; go_simp
                            (try with_reducible rfl)
                          (try simp only [Act.put])
                          refine wpAnyK_free (i := 19) (oi := _) (v := ?_) rfl (by kernel_rfl) (by kernel_rfl) (by kernel_rfl) (by kernel_rfl) (fun _ _ _ h => h) (Or.inl ⟨by rfl, ?_⟩) (HeldT.of ⟨A6.cell y12 nbt, A6.cell y13 nbt⟩) ?_
                          rotate_left
                          · intro w _; go_simp
                            (try with_reducible rfl)
                          (try simp only [Act.put])
                          have bA := A6.gb.blk M5.out.m.blk nbt
                          have g12 := A6.cell y12 nbt; have g13 := A6.cell y13 nbt; have f12 := blk_frozen bA 12
                          have h13 : (z3.setCell ⟨tb, 12, none⟩ (.slice B1 (n + 1) cB1)).cell? ⟨tb, 13, none⟩ = _ := (World.cell?_setCell_other z3 ⟨tb, 12, none⟩ ⟨tb, 13, none⟩ _ (by simp)).trans g13
                          have f13 : (z3.setCell ⟨tb, 12, none⟩ (.slice B1 (n + 1) cB1)).frozen? ⟨tb, 13, none⟩ = false := blk_frozen (blk_set bA 12 _) 13
                          have FA := Lib.hid A6
                          refine wpAnyK_ready (rs := [20]) (by kernel_rfl) (by simp) (AllReadyK.last (o := _) (by kernel_rfl) rfl (fun K hK => ?_) AllReadyK.nil)
                          go_simp
                          refine hK.out _ _ ?_
                          clear hK K
                          (try simp only [Act.put])
                          refine wpAnyK_free (i := 21) (oi := _) (v := ?_) rfl (by kernel_rfl) (by kernel_rfl) (by kernel_rfl) (by kernel_rfl) (fun _ _ _ h => h) (Or.inl ⟨by rfl, ?_⟩) (HeldT.past (by kernel_rfl)) ?_
                          rotate_left
                          · intro w _; go_simp
                            (try with_reducible rfl)
                          (try simp only [Act.put])
                          refine wpAnyK_free (i := 22) (oi := _) (v := ?_) rfl (by kernel_rfl) (by kernel_rfl) (by kernel_rfl) (by kernel_rfl) (fun _ _ _ h => h) (Or.inl ⟨by rfl, ?_⟩) (HeldT.past (by kernel_rfl)) ?_
                          rotate_left
                          · intro w _; go_simp
                            (try with_reducible rfl)
                          (try simp only [Act.put])
                          refine wpAnyK_ready (rs := [23]) (by kernel_rfl) (by simp) (AllReadyK.last (o := _) (by kernel_rfl) rfl (fun K hK => ?_) AllReadyK.nil)
                          go_simp
                          refine hK.out _ _ ?_
                          clear hK K
                          (try simp only [Act.put])
                          refine wpAnyK_ready (rs := [24]) (by kernel_rfl) (by simp) (AllReadyK.last (o := _) (by kernel_rfl) rfl (fun K hK => ?_) AllReadyK.nil)
                          go_simp
                          refine hK.out _ _ ?_
                          clear hK K
                          (try simp only [Act.put])
                          refine wpAnyK_done (by kernel_rfl) ?_ _
                          go_wp2_with fail
                          go_meet
                          exact ⟨_, _, _, rfl, M5.out.rows FA.out⟩
                      · have A2 := A1.build (.int .i64 0) (k := U.heap.size + 1) (by simp)
                        go_simp
                        refine hK.out _ _ ⟨A2.cell y12 nbt, A2.cell y13 nbt⟩ ?_
                        clear hK K
                        (try simp only [Act.put])
                        refine wpAnyK_ready (rs := [7, 16]) (by kernel_rfl) (by simp) (AllReadyK.cons (o := _) rfl (fun K hK => ?_) (AllReadyK.cons (o := _) rfl (fun K hK => ?_) AllReadyK.nil))
                        · refine step_app_int9 (y := .int .i64 0) ((U.alloc (.cells #[.int .i64 0] 3)).alloc (.cells #[.int .i64 0] 3)) rfl (.tmp 89) (.tmp 90) rfl w.heap.size (by rfl) A2.o1 (by rfl) (A2.bs (U.heap.size, .int .i64 0) (.tail _ (.head _))).1 rfl hn5 (Nat.le_trans hb5 A2.gb.size) ?_
                          intro B1 cB1 z1 oB gB bB
                          have A3 := A2.app1 oB gB bB
                          clear oB gB bB
                          refine hK.out _ _ ⟨A3.cell y12 nbt, A3.cell y13 nbt⟩ ?_
                          clear hK K
                          (try simp only [Act.put])
                          refine wpAnyK_ready (rs := [13, 16]) (by kernel_rfl) (by simp) (AllReadyK.cons (o := _) rfl (fun K hK => ?_) (AllReadyK.cons (o := _) rfl (fun K hK => ?_) AllReadyK.nil))
                          · refine step_app_int9 (y := .int .i64 0) z1 rfl (.tmp 95) (.tmp 96) rfl w.heap.size (by rfl) A3.o2 (by rfl) (A3.bs (U.heap.size + 1, .int .i64 0) (.head _)).1 rfl hn5 (Nat.le_trans hb5 A3.gb.size) ?_
                            intro B2 cB2 z2 oB gB bB
                            have A4 := A3.app2 oB gB bB
                            clear oB gB bB
                            refine hK.out _ _ ⟨A4.cell y12 nbt, A4.cell y13 nbt⟩ ?_
                            clear hK K
                            (try simp only [Act.put])
                            refine wpAnyK_ready (rs := [16]) (by kernel_rfl) (by simp) (AllReadyK.cons (o := _) rfl (fun K hK => ?_) AllReadyK.nil)
                            have A5 := A4.build (.int .i64 (d : Int)) (k := z2.heap.size) (by rfl)
                            go_simp
                            refine hK.out _ _ ⟨A5.cell y12 nbt, A5.cell y13 nbt⟩ ?_
                            clear hK K
                            (try simp only [Act.put])
                            refine wpAnyK_ready (rs := [17]) (by kernel_rfl) (by simp) (AllReadyK.cons (o := _) rfl (fun K hK => ?_) AllReadyK.nil)
                            refine step_app_int9 (y := .int .i64 (d : Int)) (z2.alloc (.cells #[.int .i64 (d : Int)] 3)) rfl (.tmp 98) (.tmp 100) rfl w.heap.size (by rfl) A5.o3 (by rfl) (A5.bs (z2.heap.size, .int .i64 (d : Int)) (.head _)).1 rfl hn5 (Nat.le_trans hb5 A5.gb.size) ?_
                            intro B3 cB3 z3 oB gB bB
                            have A6 := A5.app3 oB gB bB
                            clear oB gB bB
                            refine hK.out _ _ ⟨A6.cell y12 nbt, A6.cell y13 nbt⟩ ?_
                            clear hK K
                            (try simp only [Act.put])
                            refine wpAnyK_free (i := 18) (oi := _) (v := ?_) rfl (by kernel_rfl) (by kernel_rfl) (by kernel_rfl) (by kernel_rfl) (fun _ _ _ h => h) (Or.inl ⟨by rfl, ?_⟩) (HeldT.of ⟨A6.cell y12 nbt, A6.cell y13 nbt⟩) ?_
                            rotate_left
                            · intro w _; go_simp
                              (try with_reducible rfl)
                            (try simp only [Act.put])
                            refine wpAnyK_free (i := 19) (oi := _) (v := ?_) rfl (by kernel_rfl) (by kernel_rfl) (by kernel_rfl) (by kernel_rfl) (fun _ _ _ h => h) (Or.inl ⟨by rfl, ?_⟩) (HeldT.of ⟨A6.cell y12 nbt, A6.cell y13 nbt⟩) ?_
                            rotate_left
                            · intro w _; go_simp
                              (try with_reducible rfl)
                            (try simp only [Act.put])
                            have bA := A6.gb.blk M5.out.m.blk nbt
                            have g12 := A6.cell y12 nbt; have g13 := A6.cell y13 nbt; have f12 := blk_frozen bA 12
                            have h13 : (z3.setCell ⟨tb, 12, none⟩ (.slice B1 (n + 1) cB1)).cell? ⟨tb, 13, none⟩ = _ := (World.cell?_setCell_other z3 ⟨tb, 12, none⟩ ⟨tb, 13, none⟩ _ (by simp)).trans g13
                            have f13 : (z3.setCell ⟨tb, 12, none⟩ (.slice B1 (n + 1) cB1)).frozen? ⟨tb, 13, none⟩ = false := blk_frozen (blk_set bA 12 _) 13
                            have FA := Lib.hid A6
                            refine wpAnyK_ready (rs := [20]) (by kernel_rfl) (by simp) (AllReadyK.last (o := _) (by kernel_rfl) rfl (fun K hK => ?_) AllReadyK.nil)
                            go_simp
                            refine hK.out _ _ ?_
                            clear hK K
                            (try simp only [Act.put])
                            refine wpAnyK_free (i := 21) (oi := _) (v := ?_) rfl (by kernel_rfl) (by kernel_rfl) (by kernel_rfl) (by kernel_rfl) (fun _ _ _ h => h) (Or.inl ⟨by rfl, ?_⟩) (HeldT.past (by kernel_rfl)) ?_
                            rotate_left
                            · intro w _; go_simp
                              (try with_reducible rfl)
                            (try simp only [Act.put])
                            refine wpAnyK_free (i := 22) (oi := _) (v := ?_) rfl (by kernel_rfl) (by kernel_rfl) (by kernel_rfl) (by kernel_rfl) (fun _ _ _ h => h) (Or.inl ⟨by rfl, ?_⟩) (HeldT.past (by kernel_rfl)) ?_
                            rotate_left
                            · intro w _; go_simp
                              (try with_reducible rfl)
                            (try simp only [Act.put])
                            refine wpAnyK_ready (rs := [23]) (by kernel_rfl) (by simp) (AllReadyK.last (o := _) (by kernel_rfl) rfl (fun K hK => ?_) AllReadyK.nil)
                            go_simp
                            refine hK.out _ _ ?_
                            clear hK K
                            (try simp only [Act.put])
                            refine wpAnyK_ready (rs := [24]) (by kernel_rfl) (by simp) (AllReadyK.last (o := _) (by kernel_rfl) rfl (fun K hK => ?_) AllReadyK.nil)
                            go_simp
                            refine hK.out _ _ ?_
                            clear hK K
                            (try simp only [Act.put])
                            refine wpAnyK_done (by kernel_rfl) ?_ _
                            go_wp2_with fail
                            go_meet
                            exact ⟨_, _, _, rfl, M5.out.rows FA.out⟩
                          · have A4 := A3.build (.int .i64 (d : Int)) (k := z1.heap.size) (by rfl)
                            go_simp
                            refine hK.out _ _ ⟨A4.cell y12 nbt, A4.cell y13 nbt⟩ ?_
                            clear hK K
                            (try simp only [Act.put])
                            refine wpAnyK_ready (rs := [13]) (by kernel_rfl) (by simp) (AllReadyK.cons (o := _) rfl (fun K hK => ?_) AllReadyK.nil)
                            refine step_app_int9 (y := .int .i64 0) (z1.alloc (.cells #[.int .i64 (d : Int)] 3)) rfl (.tmp 95) (.tmp 96) rfl w.heap.size (by rfl) A4.o2 (by rfl) (A4.bs (U.heap.size + 1, .int .i64 0) (.tail _ (.head _))).1 rfl hn5 (Nat.le_trans hb5 A4.gb.size) ?_
                            intro B2 cB2 z2 oB gB bB
                            have A5 := A4.app2 oB gB bB
                            clear oB gB bB
                            refine hK.out _ _ ⟨A5.cell y12 nbt, A5.cell y13 nbt⟩ ?_
                            clear hK K
                            (try simp only [Act.put])
                            refine wpAnyK_ready (rs := [17]) (by kernel_rfl) (by simp) (AllReadyK.cons (o := _) rfl (fun K hK => ?_) AllReadyK.nil)
                            refine step_app_int9 (y := .int .i64 (d : Int)) z2 rfl (.tmp 98) (.tmp 100) rfl w.heap.size (by rfl) A5.o3 (by rfl) (A5.bs (z1.heap.size, .int .i64 (d : Int)) (.head _)).1 rfl hn5 (Nat.le_trans hb5 A5.gb.size) ?_
                            intro B3 cB3 z3 oB gB bB
                            have A6 := A5.app3 oB gB bB
                            clear oB gB bB
                            refine hK.out _ _ ⟨A6.cell y12 nbt, A6.cell y13 nbt⟩ ?_
                            clear hK K
                            (try simp only [Act.put])
                            refine wpAnyK_free (i := 18) (oi := _) (v := ?_) rfl (by kernel_rfl) (by kernel_rfl) (by kernel_rfl) (by kernel_rfl) (fun _ _ _ h => h) (Or.inl ⟨by rfl, ?_⟩) (HeldT.of ⟨A6.cell y12 nbt, A6.cell y13 nbt⟩) ?_
                            rotate_left
                            · intro w _; go_simp
                              (try with_reducible rfl)
                            (try simp only [Act.put])
                            refine wpAnyK_free (i := 19) (oi := _) (v := ?_) rfl (by kernel_rfl) (by kernel_rfl) (by kernel_rfl) (by kernel_rfl) (fun _ _ _ h => h) (Or.inl ⟨by rfl, ?_⟩) (HeldT.of ⟨A6.cell y12 nbt, A6.cell y13 nbt⟩) ?_
                            rotate_left
                            · intro w _; go_simp
                              (try with_reducible rfl)
                            (try simp only [Act.put])
                            have bA := A6.gb.blk M5.out.m.blk nbt
                            have g12 := A6.cell y12 nbt; have g13 := A6.cell y13 nbt; have f12 := blk_frozen bA 12
                            have h13 : (z3.setCell ⟨tb, 12, none⟩ (.slice B1 (n + 1) cB1)).cell? ⟨tb, 13, none⟩ = _ := (World.cell?_setCell_other z3 ⟨tb, 12, none⟩ ⟨tb, 13, none⟩ _ (by simp)).trans g13
                            have f13 : (z3.setCell ⟨tb, 12, none⟩ (.slice B1 (n + 1) cB1)).frozen? ⟨tb, 13, none⟩ = false := blk_frozen (blk_set bA 12 _) 13
                            have FA := Lib.hid A6
                            refine wpAnyK_ready (rs := [20]) (by kernel_rfl) (by simp) (AllReadyK.last (o := _) (by kernel_rfl) rfl (fun K hK => ?_) AllReadyK.nil)
                            go_simp
                            refine hK.out _ _ ?_
                            clear hK K
                            (try simp only [Act.put])
                            refine wpAnyK_free (i := 21) (oi := _) (v := ?_) rfl (by kernel_rfl) (by kernel_rfl) (by kernel_rfl) (by kernel_rfl) (fun _ _ _ h => h) (Or.inl ⟨by rfl, ?_⟩) (HeldT.past (by kernel_rfl)) ?_
                            rotate_left
                            · intro w _; go_simp
                              (try with_reducible rfl)
                            (try simp only [Act.put])
                            refine wpAnyK_free (i := 22) (oi := _) (v := ?_) rfl (by kernel_rfl) (by kernel_rfl) (by kernel_rfl) (by kernel_rfl) (fun _ _ _ h => h) (Or.inl ⟨by rfl, ?_⟩) (HeldT.past (by kernel_rfl)) ?_
                            rotate_left
                            · intro w _; go_simp
                              (try with_reducible rfl)
                            (try simp only [Act.put])
                            refine wpAnyK_ready (rs := [23]) (by kernel_rfl) (by simp) (AllReadyK.last (o := _) (by kernel_rfl) rfl (fun K hK => ?_) AllReadyK.nil)
                            go_simp
                            refine hK.out _ _ ?_
                            clear hK K
                            (try simp only [Act.put])
                            refine wpAnyK_ready (rs := [24]) (by kernel_rfl) (by simp) (AllReadyK.last (o := _) (by kernel_rfl) rfl (fun K hK => ?_) AllReadyK.nil)
                            go_simp
                            refine hK.out _ _ ?_
                            clear hK K
                            (try simp only [Act.put])
                            refine wpAnyK_done (by kernel_rfl) ?_ _
                            go_wp2_with fail
                            go_meet
                            exact ⟨_, _, _, rfl, M5.out.rows FA.out⟩
                        · have A3 := A2.build (.int .i64 (d : Int)) (k := U.heap.size + 2) (by simp)
                          go_simp
                          refine hK.out _ _ ⟨A3.cell y12 nbt, A3.cell y13 nbt⟩ ?_
                          clear hK K
                          (try simp only [Act.put])
                          refine wpAnyK_ready (rs := [7]) (by kernel_rfl) (by simp) (AllReadyK.cons (o := _) rfl (fun K hK => ?_) AllReadyK.nil)
                          refine step_app_int9 (y := .int .i64 0) (((U.alloc (.cells #[.int .i64 0] 3)).alloc (.cells #[.int .i64 0] 3)).alloc (.cells #[.int .i64 (d : Int)] 3)) rfl (.tmp 89) (.tmp 90) rfl w.heap.size (by rfl) A3.o1 (by rfl) (A3.bs (U.heap.size, .int .i64 0) (.tail _ (.tail _ (.head _)))).1 rfl hn5 (Nat.le_trans hb5 A3.gb.size) ?_
                          intro B1 cB1 z1 oB gB bB
                          have A4 := A3.app1 oB gB bB
                          clear oB gB bB
                          refine hK.out _ _ ⟨A4.cell y12 nbt, A4.cell y13 nbt⟩ ?_
                          clear hK K
                          (try simp only [Act.put])
                          refine wpAnyK_ready (rs := [13]) (by kernel_rfl) (by simp) (AllReadyK.cons (o := _) rfl (fun K hK => ?_) AllReadyK.nil)
                          refine step_app_int9 (y := .int .i64 0) z1 rfl (.tmp 95) (.tmp 96) rfl w.heap.size (by rfl) A4.o2 (by rfl) (A4.bs (U.heap.size + 1, .int .i64 0) (.tail _ (.head _))).1 rfl hn5 (Nat.le_trans hb5 A4.gb.size) ?_
                          intro B2 cB2 z2 oB gB bB
                          have A5 := A4.app2 oB gB bB
                          clear oB gB bB
                          refine hK.out _ _ ⟨A5.cell y12 nbt, A5.cell y13 nbt⟩ ?_
                          clear hK K
                          (try simp only [Act.put])
                          refine wpAnyK_ready (rs := [17]) (by kernel_rfl) (by simp) (AllReadyK.cons (o := _) rfl (fun K hK => ?_) AllReadyK.nil)
                          refine step_app_int9 (y := .int .i64 (d : Int)) z2 rfl (.tmp 98) (.tmp 100) rfl w.heap.size (by rfl) A5.o3 (by rfl) (A5.bs (U.heap.size + 2, .int .i64 (d : Int)) (.head _)).1 rfl hn5 (Nat.le_trans hb5 A5.gb.size) ?_
                          intro B3 cB3 z3 oB gB bB
                          have A6 := A5.app3 oB gB bB
                          clear oB gB bB
                          refine hK.out _ _ ⟨A6.cell y12 nbt, A6.cell y13 nbt⟩ ?_
                          clear hK K
                          (try simp only [Act.put])
                          refine wpAnyK_free (i := 18) (oi := _) (v := ?_) rfl (by kernel_rfl) (by kernel_rfl) (by kernel_rfl) (by kernel_rfl) (fun _ _ _ h => h) (Or.inl ⟨by rfl, ?_⟩) (HeldT.of ⟨A6.cell y12 nbt, A6.cell y13 nbt⟩) ?_
                          rotate_left
                          · intro w _; go_simp
                            (try with_reducible rfl)
                          (try simp only [Act.put])
                          refine wpAnyK_free (i := 19) (oi := _) (v := ?_) rfl (by kernel_rfl) (by kernel_rfl) (by kernel_rfl) (by kernel_rfl) (fun _ _ _ h => h) (Or.inl ⟨by rfl, ?_⟩) (HeldT.of ⟨A6.cell y12 nbt, A6.cell y13 nbt⟩) ?_
                          rotate_left
                          · intro w _; go_simp
                            (try with_reducible rfl)
                          (try simp only [Act.put])
                          have bA := A6.gb.blk M5.out.m.blk nbt
                          have g12 := A6.cell y12 nbt; have g13 := A6.cell y13 nbt; have f12 := blk_frozen bA 12
                          have h13 : (z3.setCell ⟨tb, 12, none⟩ (.slice B1 (n + 1) cB1)).cell? ⟨tb, 13, none⟩ = _ := (World.cell?_setCell_other z3 ⟨tb, 12, none⟩ ⟨tb, 13, none⟩ _ (by simp)).trans g13
                          have f13 : (z3.setCell ⟨tb, 12, none⟩ (.slice B1 (n + 1) cB1)).frozen? ⟨tb, 13, none⟩ = false := blk_frozen (blk_set bA 12 _) 13
                          have FA := Lib.hid A6
                          refine wpAnyK_ready (rs := [20]) (by kernel_rfl) (by simp) (AllReadyK.last (o := _) (by kernel_rfl) rfl (fun K hK => ?_) AllReadyK.nil)
                          go_simp
                          refine hK.out _ _ ?_
                          clear hK K
                          (try simp only [Act.put])
                          refine wpAnyK_free (i := 21) (oi := _) (v := ?_) rfl (by kernel_rfl) (by kernel_rfl) (by kernel_rfl) (by kernel_rfl) (fun _ _ _ h => h) (Or.inl ⟨by rfl, ?_⟩) (HeldT.past (by kernel_rfl)) ?_
                          rotate_left
                          · intro w _; go_simp
                            (try with_reducible rfl)
                          (try simp only [Act.put])
                          refine wpAnyK_free (i := 22) (oi := _) (v := ?_) rfl (by kernel_rfl) (by kernel_rfl) (by kernel_rfl) (by kernel_rfl) (fun _ _ _ h => h) (Or.inl ⟨by rfl, ?_⟩) (HeldT.past (by kernel_rfl)) ?_
                          rotate_left
                          · intro w _; go_simp
                            (try with_reducible rfl)
                          (try simp only [Act.put])
                          refine wpAnyK_ready (rs := [23]) (by kernel_rfl) (by simp) (AllReadyK.last (o := _) (by kernel_rfl) rfl (fun K hK => ?_) AllReadyK.nil)
                          go_simp
                          refine hK.out _ _ ?_
                          clear hK K
                          (try simp only [Act.put])
                          refine wpAnyK_ready (rs := [24]) (by kernel_rfl) (by simp) (AllReadyK.last (o := _) (by kernel_rfl) rfl (fun K hK => ?_) AllReadyK.nil)
                          go_simp
                          refine hK.out _ _ ?_
                          clear hK K
                          (try simp only [Act.put])
                          refine wpAnyK_done (by kernel_rfl) ?_ _
                          go_wp2_with fail
                          go_meet
                          exact ⟨_, _, _, rfl, M5.out.rows FA.out⟩
                      · have A2 := A1.build (.int .i64 (d : Int)) (k := U.heap.size + 1) (by simp)
                        go_simp
                        refine hK.out _ _ ⟨A2.cell y12 nbt, A2.cell y13 nbt⟩ ?_
                        clear hK K
                        (try simp only [Act.put])
                        refine wpAnyK_ready (rs := [7, 12]) (by kernel_rfl) (by simp) (AllReadyK.cons (o := _) rfl (fun K hK => ?_) (AllReadyK.cons (o := _) rfl (fun K hK => ?_) AllReadyK.nil))
                        · refine step_app_int9 (y := .int .i64 0) ((U.alloc (.cells #[.int .i64 0] 3)).alloc (.cells #[.int .i64 (d : Int)] 3)) rfl (.tmp 89) (.tmp 90) rfl w.heap.size (by rfl) A2.o1 (by rfl) (A2.bs (U.heap.size, .int .i64 0) (.tail _ (.head _))).1 rfl hn5 (Nat.le_trans hb5 A2.gb.size) ?_
                          intro B1 cB1 z1 oB gB bB
                          have A3 := A2.app1 oB gB bB
                          clear oB gB bB
                          refine hK.out _ _ ⟨A3.cell y12 nbt, A3.cell y13 nbt⟩ ?_
                          clear hK K
                          (try simp only [Act.put])
                          refine wpAnyK_ready (rs := [12]) (by kernel_rfl) (by simp) (AllReadyK.cons (o := _) rfl (fun K hK => ?_) AllReadyK.nil)
                          have A4 := A3.build (.int .i64 0) (k := z1.heap.size) (by rfl)
                          go_simp
                          refine hK.out _ _ ⟨A4.cell y12 nbt, A4.cell y13 nbt⟩ ?_
                          clear hK K
                          (try simp only [Act.put])
                          refine wpAnyK_ready (rs := [13]) (by kernel_rfl) (by simp) (AllReadyK.cons (o := _) rfl (fun K hK => ?_) AllReadyK.nil)
                          refine step_app_int9 (y := .int .i64 0) (z1.alloc (.cells #[.int .i64 0] 3)) rfl (.tmp 95) (.tmp 96) rfl w.heap.size (by rfl) A4.o2 (by rfl) (A4.bs (z1.heap.size, .int .i64 0) (.head _)).1 rfl hn5 (Nat.le_trans hb5 A4.gb.size) ?_
                          intro B2 cB2 z2 oB gB bB
                          have A5 := A4.app2 oB gB bB
                          clear oB gB bB
                          refine hK.out _ _ ⟨A5.cell y12 nbt, A5.cell y13 nbt⟩ ?_
                          clear hK K
                          (try simp only [Act.put])
                          refine wpAnyK_ready (rs := [17]) (by kernel_rfl) (by simp) (AllReadyK.cons (o := _) rfl (fun K hK => ?_) AllReadyK.nil)
                          refine step_app_int9 (y := .int .i64 (d : Int)) z2 rfl (.tmp 98) (.tmp 100) rfl w.heap.size (by rfl) A5.o3 (by rfl) (A5.bs (U.heap.size + 1, .int .i64 (d : Int)) (.tail _ (.head _))).1 rfl hn5 (Nat.le_trans hb5 A5.gb.size) ?_
                          intro B3 cB3 z3 oB gB bB
                          have A6 := A5.app3 oB gB bB
                          clear oB gB bB
                          refine hK.out _ _ ⟨A6.cell y12 nbt, A6.cell y13 nbt⟩ ?_
                          clear hK K
                          (try simp only [Act.put])
                          refine wpAnyK_free (i := 18) (oi := _) (v := ?_) rfl (by kernel_rfl) (by kernel_rfl) (by kernel_rfl) (by kernel_rfl) (fun _ _ _ h => h) (Or.inl ⟨by rfl, ?_⟩) (HeldT.of ⟨A6.cell y12 nbt, A6.cell y13 nbt⟩) ?_
                          rotate_left
                          · intro w _; go_simp
                            (try with_reducible rfl)
                          (try simp only [Act.put])
                          refine wpAnyK_free (i := 19) (oi := _) (v := ?_) rfl (by kernel_rfl) (by kernel_rfl) (by kernel_rfl) (by kernel_rfl) (fun _ _ _ h => h) (Or.inl ⟨by rfl, ?_⟩) (HeldT.of ⟨A6.cell y12 nbt, A6.cell y13 nbt⟩) ?_
                          rotate_left
                          · intro w _; go_simp
                            (try with_reducible rfl)
                          (try simp only [Act.put])
                          have bA := A6.gb.blk M5.out.m.blk nbt
                          have g12 := A6.cell y12 nbt; have g13 := A6.cell y13 nbt; have f12 := blk_frozen bA 12
                          have h13 : (z3.setCell ⟨tb, 12, none⟩ (.slice B1 (n + 1) cB1)).cell? ⟨tb, 13, none⟩ = _ := (World.cell?_setCell_other z3 ⟨tb, 12, none⟩ ⟨tb, 13, none⟩ _ (by simp)).trans g13
                          have f13 : (z3.setCell ⟨tb, 12, none⟩ (.slice B1 (n + 1) cB1)).frozen? ⟨tb, 13, none⟩ = false := blk_frozen (blk_set bA 12 _) 13
                          have FA := Lib.hid A6
                          refine wpAnyK_ready (rs := [20]) (by kernel_rfl) (by simp) (AllReadyK.last (o := _) (by kernel_rfl) rfl (fun K hK => ?_) AllReadyK.nil)
                          go_simp
                          refine hK.out _ _ ?_
                          clear hK K
                          (try simp only [Act.put])
                          refine wpAnyK_free (i := 21) (oi := _) (v := ?_) rfl (by kernel_rfl) (by kernel_rfl) (by kernel_rfl) (by kernel_rfl) (fun _ _ _ h => h) (Or.inl ⟨by rfl, ?_⟩) (HeldT.past (by kernel_rfl)) ?_
                          rotate_left
                          · intro w _; go_simp
                            (try with_reducible rfl)
                          (try simp only [Act.put])
                          refine wpAnyK_free (i := 22) (oi := _) (v := ?_) rfl (by kernel_rfl) (by kernel_rfl) (by kernel_rfl) (by kernel_rfl) (fun _ _ _ h => h) (Or.inl ⟨by rfl, ?_⟩) (HeldT.past (by kernel_rfl)) ?_
                          rotate_left
                          · intro w _; go_simp
                            (try with_reducible rfl)
                          (try simp only [Act.put])
                          refine wpAnyK_ready (rs := [23]) (by kernel_rfl) (by simp) (AllReadyK.last (o := _) (by kernel_rfl) rfl (fun K hK => ?_) AllReadyK.nil)
                          go_simp
                          refine hK.out _ _ ?_
                          clear hK K
                          (try simp only [Act.put])
                          refine wpAnyK_ready (rs := [24]) (by kernel_rfl) (by simp) (AllReadyK.last (o := _) (by kernel_rfl) rfl (fun K hK => ?_) AllReadyK.nil)
                          go_simp
                          refine hK.out _ _ ?_
                          clear hK K
                          (try simp only [Act.put])
                          refine wpAnyK_done (by kernel_rfl) ?_ _
                          go_wp2_with fail
                          go_meet
                          exact ⟨_, _, _, rfl, M5.out.rows FA.out⟩
                        · have A3 := A2.build (.int .i64 0) (k := U.heap.size + 2) (by simp)
                          go_simp
                          refine hK.out _ _ ⟨A3.cell y12 nbt, A3.cell y13 nbt⟩ ?_
                          clear hK K
                          (try simp only [Act.put])
                          refine wpAnyK_ready (rs := [7]) (by kernel_rfl) (by simp) (AllReadyK.cons (o := _) rfl (fun K hK => ?_) AllReadyK.nil)
                          refine step_app_int9 (y := .int .i64 0) (((U.alloc (.cells #[.int .i64 0] 3)).alloc (.cells #[.int .i64 (d : Int)] 3)).alloc (.cells #[.int .i64 0] 3)) rfl (.tmp 89) (.tmp 90) rfl w.heap.size (by rfl) A3.o1 (by rfl) (A3.bs (U.heap.size, .int .i64 0) (.tail _ (.tail _ (.head _)))).1 rfl hn5 (Nat.le_trans hb5 A3.gb.size) ?_
                          intro B1 cB1 z1 oB gB bB
                          have A4 := A3.app1 oB gB bB
                          clear oB gB bB
                          refine hK.out _ _ ⟨A4.cell y12 nbt, A4.cell y13 nbt⟩ ?_
                          clear hK K
                          (try simp only [Act.put])
                          refine wpAnyK_ready (rs := [13]) (by kernel_rfl) (by simp) (AllReadyK.cons (o := _) rfl (fun K hK => ?_) AllReadyK.nil)
                          refine step_app_int9 (y := .int .i64 0) z1 rfl (.tmp 95) (.tmp 96) rfl w.heap.size (by rfl) A4.o2 (by rfl) (A4.bs (U.heap.size + 2, .int .i64 0) (.head _)).1 rfl hn5 (Nat.le_trans hb5 A4.gb.size) ?_
                          intro B2 cB2 z2 oB gB bB
                          have A5 := A4.app2 oB gB bB
                          clear oB gB bB
                          refine hK.out _ _ ⟨A5.cell y12 nbt, A5.cell y13 nbt⟩ ?_
                          clear hK K
                          (try simp only [Act.put])
                          refine wpAnyK_ready (rs := [17]) (by kernel_rfl) (by simp) (AllReadyK.cons (o := _) rfl (fun K hK => ?_) AllReadyK.nil)
                          refine step_app_int9 (y := .int .i64 (d : Int)) z2 rfl (.tmp 98) (.tmp 100) rfl w.heap.size (by rfl) A5.o3 (by rfl) (A5.bs (U.heap.size + 1, .int .i64 (d : Int)) (.tail _ (.head _))).1 rfl hn5 (Nat.le_trans hb5 A5.gb.size) ?_
                          intro B3 cB3 z3 oB gB bB
                          have A6 := A5.app3 oB gB bB
                          clear oB gB bB
                          refine hK.out _ _ ⟨A6.cell y12 nbt, A6.cell y13 nbt⟩ ?_
                          clear hK K
                          (try simp only [Act.put])
                          refine wpAnyK_free (i := 18) (oi := _) (v := ?_) rfl (by kernel_rfl) (by kernel_rfl) (by kernel_rfl) (by kernel_rfl) (fun _ _ _ h => h) (Or.inl ⟨by rfl, ?_⟩) (HeldT.of ⟨A6.cell y12 nbt, A6.cell y13 nbt⟩) ?_
                          rotate_left
                          · intro w _; go_simp
                            (try with_reducible rfl)
                          (try simp only [Act.put])
                          refine wpAnyK_free (i := 19) (oi := _) (v := ?_) rfl (by kernel_rfl) (by kernel_rfl) (by kernel_rfl) (by kernel_rfl) (fun _ _ _ h => h) (Or.inl ⟨by rfl, ?_⟩) (HeldT.of ⟨A6.cell y12 nbt, A6.cell y13 nbt⟩) ?_
                          rotate_left
                          · intro w _; go_simp
                            (try with_reducible rfl)
                          (try simp only [Act.put])
                          have bA := A6.gb.blk M5.out.m.blk nbt
                          have g12 := A6.cell y12 nbt; have g13 := A6.cell y13 nbt; have f12 := blk_frozen bA 12
                          have h13 : (z3.setCell ⟨tb, 12, none⟩ (.slice B1 (n + 1) cB1)).cell? ⟨tb, 13, none⟩ = _ := (World.cell?_setCell_other z3 ⟨tb, 12, none⟩ ⟨tb, 13, none⟩ _ (by simp)).trans g13
                          have f13 : (z3.setCell ⟨tb, 12, none⟩ (.slice B1 (n + 1) cB1)).frozen? ⟨tb, 13, none⟩ = false := blk_frozen (blk_set bA 12 _) 13
                          have FA := Lib.hid A6
                          refine wpAnyK_ready (rs := [20]) (by kernel_rfl) (by simp) (AllReadyK.last (o := _) (by kernel_rfl) rfl (fun K hK => ?_) AllReadyK.nil)
                          go_simp
                          refine hK.out _ _ ?_
                          clear hK K
                          (try simp only [Act.put])
                          refine wpAnyK_free (i := 21) (oi := _) (v := ?_) rfl (by kernel_rfl) (by kernel_rfl) (by kernel_rfl) (by kernel_rfl) (fun _ _ _ h => h) (Or.inl ⟨by rfl, ?_⟩) (HeldT.past (by kernel_rfl)) ?_
                          rotate_left
                          · intro w _; go_simp
                            (try with_reducible rfl)
                          (try simp only [Act.put])
                          refine wpAnyK_free (i := 22) (oi := _) (v := ?_) rfl (by kernel_rfl) (by kernel_rfl) (by kernel_rfl) (by kernel_rfl) (fun _ _ _ h => h) (Or.inl ⟨by rfl, ?_⟩) (HeldT.past (by kernel_rfl)) ?_
                          rotate_left
                          · intro w _; go_simp
                            (try with_reducible rfl)
                          (try simp only [Act.put])
                          refine wpAnyK_ready (rs := [23]) (by kernel_rfl) (by simp) (AllReadyK.last (o := _) (by kernel_rfl) rfl (fun K hK => ?_) AllReadyK.nil)
                          go_simp
                          refine hK.out _ _ ?_
                          clear hK K
                          (try simp only [Act.put])
                          refine wpAnyK_ready (rs := [24]) (by kernel_rfl) (by simp) (AllReadyK.last (o := _) (by kernel_rfl) rfl (fun K hK => ?_) AllReadyK.nil)
                          go_simp
                          refine hK.out _ _ ?_
                          clear hK K
                          (try simp only [Act.put])
                          refine wpAnyK_done (by kernel_rfl) ?_ _
                          go_wp2_with fail
                          go_meet
                          exact ⟨_, _, _, rfl, M5.out.rows FA.out⟩
                    · have A1 := A0.build (.int .i64 0) (k := U.heap.size) (by rfl)
                      go_simp
                      refine hK.out _ _ ⟨A1.cell y12 nbt, A1.cell y13 nbt⟩ ?_
                      clear hK K
                      (try simp only [Act.put])
                      refine wpAnyK_ready (rs := [6, 16]) (by kernel_rfl) (by simp) (AllReadyK.cons (o := _) rfl (fun K hK => ?_) (AllReadyK.cons (o := _) rfl (fun K hK => ?_) AllReadyK.nil))
                      · have A2 := A1.build (.int .i64 0) (k := U.heap.size + 1) (by simp)
                        go_simp
                        refine hK.out _ _ ⟨A2.cell y12 nbt, A2.cell y13 nbt⟩ ?_
                        clear hK K
                        (try simp only [Act.put])
                        refine wpAnyK_ready (rs := [7, 16]) (by kernel_rfl) (by simp) (AllReadyK.cons (o := _) rfl (fun K hK => ?_) (AllReadyK.cons (o := _) rfl (fun K hK => ?_) AllReadyK.nil))
                        · refine step_app_int9 (y := .int .i64 0) ((U.alloc (.cells #[.int .i64 0] 3)).alloc (.cells #[.int .i64 0] 3)) rfl (.tmp 89) (.tmp 90) rfl w.heap.size (by rfl) A2.o1 (by rfl) (A2.bs (U.heap.size + 1, .int .i64 0) (.head _)).1 rfl hn5 (Nat.le_trans hb5 A2.gb.size) ?_
                          intro B1 cB1 z1 oB gB bB
                          have A3 := A2.app1 oB gB bB
                          clear oB gB bB
                          refine hK.out _ _ ⟨A3.cell y12 nbt, A3.cell y13 nbt⟩ ?_
                          clear hK K
                          (try simp only [Act.put])
                          refine wpAnyK_ready (rs := [13, 16]) (by kernel_rfl) (by simp) (AllReadyK.cons (o := _) rfl (fun K hK => ?_) (AllReadyK.cons (o := _) rfl (fun K hK => ?_) AllReadyK.nil))
                          · refine step_app_int9 (y := .int .i64 0) z1 rfl (.tmp 95) (.tmp 96) rfl w.heap.size (by rfl) A3.o2 (by rfl) (A3.bs (U.heap.size, .int .i64 0) (.tail _ (.head _))).1 rfl hn5 (Nat.le_trans hb5 A3.gb.size) ?_
                            intro B2 cB2 z2 oB gB bB
                            have A4 := A3.app2 oB gB bB
                            clear oB gB bB
                            refine hK.out _ _ ⟨A4.cell y12 nbt, A4.cell y13 nbt⟩ ?_
                            clear hK K
                            (try simp only [Act.put])
                            refine wpAnyK_ready (rs := [16]) (by kernel_rfl) (by simp) (AllReadyK.cons (o := _) rfl (fun K hK => ?_) AllReadyK.nil)
                            have A5 := A4.build (.int .i64 (d : Int)) (k := z2.heap.size) (by rfl)
                            go_simp
                            refine hK.out _ _ ⟨A5.cell y12 nbt, A5.cell y13 nbt⟩ ?_
                            clear hK K
                            (try simp only [Act.put])
                            refine wpAnyK_ready (rs := [17]) (by kernel_rfl) (by simp) (AllReadyK.cons (o := _) rfl (fun K hK => ?_) AllReadyK.nil)
                            refine step_app_int9 (y := .int .i64 (d : Int)) (z2.alloc (.cells #[.int .i64 (d : Int)] 3)) rfl (.tmp 98) (.tmp 100) rfl w.heap.size (by rfl) A5.o3 (by rfl) (A5.bs (z2.heap.size, .int .i64 (d : Int)) (.head _)).1 rfl hn5 (Nat.le_trans hb5 A5.gb.size) ?_
                            intro B3 cB3 z3 oB gB bB
                            have A6 := A5.app3 oB gB bB
                            clear oB gB bB
                            refine hK.out _ _ ⟨A6.cell y12 nbt, A6.cell y13 nbt⟩ ?_
                            clear hK K
                            (try simp only [Act.put])
                            refine wpAnyK_free (i := 18) (oi := _) (v := ?_) rfl (by kernel_rfl) (by kernel_rfl) (by kernel_rfl) (by kernel_rfl) (fun _ _ _ h => h) (Or.inl ⟨by rfl, ?_⟩) (HeldT.of ⟨A6.cell y12 nbt, A6.cell y13 nbt⟩) ?_
                            rotate_left
                            · intro w _; go_simp
                              (try with_reducible rfl)
                            (try simp only [Act.put])
                            refine wpAnyK_free (i := 19) (oi := _) (v := ?_) rfl (by kernel_rfl) (by kernel_rfl) (by kernel_rfl) (by kernel_rfl) (fun _ _ _ h => h) (Or.inl ⟨by rfl, ?_⟩) (HeldT.of ⟨A6.cell y12 nbt, A6.cell y13 nbt⟩) ?_
                            rotate_left
                            · intro w _; go_simp
                              (try with_reducible rfl)
                            (try simp only [Act.put])
                            have bA := A6.gb.blk M5.out.m.blk nbt
                            have g12 := A6.cell y12 nbt; have g13 := A6.cell y13 nbt; have f12 := blk_frozen bA 12
                            have h13 : (z3.setCell ⟨tb, 12, none⟩ (.slice B1 (n + 1) cB1)).cell? ⟨tb, 13, none⟩ = _ := (World.cell?_setCell_other z3 ⟨tb, 12, none⟩ ⟨tb, 13, none⟩ _ (by simp)).trans g13
                            have f13 : (z3.setCell ⟨tb, 12, none⟩ (.slice B1 (n + 1) cB1)).frozen? ⟨tb, 13, none⟩ = false := blk_frozen (blk_set bA 12 _) 13
                            have FA := Lib.hid A6
                            refine wpAnyK_ready (rs := [20]) (by kernel_rfl) (by simp) (AllReadyK.last (o := _) (by kernel_rfl) rfl (fun K hK => ?_) AllReadyK.nil)
                            go_simp
                            refine hK.out _ _ ?_
                            clear hK K
                            (try simp only [Act.put])
                            refine wpAnyK_free (i := 21) (oi := _) (v := ?_) rfl (by kernel_rfl) (by kernel_rfl) (by kernel_rfl) (by kernel_rfl) (fun _ _ _ h => h) (Or.inl ⟨by rfl, ?_⟩) (HeldT.past (by kernel_rfl)) ?_
                            rotate_left
                            · intro w _; go_simp
                              (try with_reducible rfl)
                            (try simp only [Act.put])
                            refine wpAnyK_free (i := 22) (oi := _) (v := ?_) rfl (by kernel_rfl) (by kernel_rfl) (by kernel_rfl) (by kernel_rfl) (fun _ _ _ h => h) (Or.inl ⟨by rfl, ?_⟩) (HeldT.past (by kernel_rfl)) ?_
                            rotate_left
                            · intro w _; go_simp
                              (try with_reducible rfl)
                            (try simp only [Act.put])
                            refine wpAnyK_ready (rs := [23]) (by kernel_rfl) (by simp) (AllReadyK.last (o := _) (by kernel_rfl) rfl (fun K hK => ?_) AllReadyK.nil)
                            go_simp
                            refine hK.out _ _ ?_
                            clear hK K
                            (try simp only [Act.put])
                            refine wpAnyK_ready (rs := [24]) (by kernel_rfl) (by simp) (AllReadyK.last (o := _) (by kernel_rfl) rfl (fun K hK => ?_) AllReadyK.nil)
                            go_simp
                            refine hK.out _ _ ?_
                            clear hK K
                            (try simp only [Act.put])
                            refine wpAnyK_done (by kernel_rfl) ?_ _
                            go_wp2_with fail
                            go_meet
                            exact ⟨_, _, _, rfl, M5.out.rows FA.out⟩
                          · have A4 := A3.build (.int .i64 (d : Int)) (k := z1.heap.size) (by rfl)
                            go_simp
                            refine hK.out _ _ ⟨A4.cell y12 nbt, A4.cell y13 nbt⟩ ?_
                            clear hK K
                            (try simp only [Act.put])
                            refine wpAnyK_ready (rs := [13]) (by kernel_rfl) (by simp) (AllReadyK.cons (o := _) rfl (fun K hK => ?_) AllReadyK.nil)
                            refine step_app_int9 (y := .int .i64 0) (z1.alloc (.cells #[.int .i64 (d : Int)] 3)) rfl (.tmp 95) (.tmp 96) rfl w.heap.size (by rfl) A4.o2 (by rfl) (A4.bs (U.heap.size, .int .i64 0) (.tail _ (.tail _ (.head _)))).1 rfl hn5 (Nat.le_trans hb5 A4.gb.size) ?_
                            intro B2 cB2 z2 oB gB bB
                            have A5 := A4.app2 oB gB bB
                            clear oB gB bB
                            refine hK.out _ _ ⟨A5.cell y12 nbt, A5.cell y13 nbt⟩ ?_
                            clear hK K
                            (try simp only [Act.put])
                            refine wpAnyK_ready (rs := [17]) (by kernel_rfl) (by simp) (AllReadyK.cons (o := _) rfl (fun K hK => ?_) AllReadyK.nil)
                            refine step_app_int9 (y := .int .i64 (d : Int)) z2 rfl (.tmp 98) (.tmp 100) rfl w.heap.size (by rfl) A5.o3 (by rfl) (A5.bs (z1.heap.size, .int .i64 (d : Int)) (.head _)).1 rfl hn5 (Nat.le_trans hb5 A5.gb.size) ?_
                            intro B3 cB3 z3 oB gB bB
                            have A6 := A5.app3 oB gB bB
                            clear oB gB bB
                            refine hK.out _ _ ⟨A6.cell y12 nbt, A6.cell y13 nbt⟩ ?_
                            clear hK K
                            (try simp only [Act.put])
                            refine wpAnyK_free (i := 18) (oi := _) (v := ?_) rfl (by kernel_rfl) (by kernel_rfl) (by kernel_rfl) (by kernel_rfl) (fun _ _ _ h => h) (Or.inl ⟨by rfl, ?_⟩) (HeldT.of ⟨A6.cell y12 nbt, A6.cell y13 nbt⟩) ?_
                            rotate_left
                            · intro w _; go_simp
                              (try with_reducible rfl)
                            (try simp only [Act.put])
                            refine wpAnyK_free (i := 19) (oi := _) (v := ?_) rfl (by kernel_rfl) (by kernel_rfl) (by kernel_rfl) (by kernel_rfl) (fun _ _ _ h => h) (Or.inl ⟨by rfl, ?_⟩) (HeldT.of ⟨A6.cell y12 nbt, A6.cell y13 nbt⟩) ?_
                            rotate_left
                            · intro w _; go_simp
                              (try with_reducible rfl)
                            (try simp only [Act.put])
                            have bA := A6.gb.blk M5.out.m.blk nbt
                            have g12 := A6.cell y12 nbt; have g13 := A6.cell y13 nbt; have f12 := blk_frozen bA 12
                            have h13 : (z3.setCell ⟨tb, 12, none⟩ (.slice B1 (n + 1) cB1)).cell? ⟨tb, 13, none⟩ = _ := (World.cell?_setCell_other z3 ⟨tb, 12, none⟩ ⟨tb, 13, none⟩ _ (by simp)).trans g13
                            have f13 : (z3.setCell ⟨tb, 12, none⟩ (.slice B1 (n + 1) cB1)).frozen? ⟨tb, 13, none⟩ = false := blk_frozen (blk_set bA 12 _) 13
                            have FA := Lib.hid A6
                            refine wpAnyK_ready (rs := [20]) (by kernel_rfl) (by simp) (AllReadyK.last (o := _) (by kernel_rfl) rfl (fun K hK => ?_) AllReadyK.nil)
                            go_simp
                            refine hK.out _ _ ?_
                            clear hK K
                            (try simp only [Act.put])
                            refine wpAnyK_free (i := 21) (oi := _) (v := ?_) rfl (by kernel_rfl) (by kernel_rfl) (by kernel_rfl) (by kernel_rfl) (fun _ _ _ h => h) (Or.inl ⟨by rfl, ?_⟩) (HeldT.past (by kernel_rfl)) ?_
                            rotate_left
                            · intro w _; go_simp
                              (try with_reducible rfl)
                            (try simp only [Act.put])
                            refine wpAnyK_free (i := 22) (oi := _) (v := ?_) rfl (by kernel_rfl) (by kernel_rfl) (by kernel_rfl) (by kernel_rfl) (fun _ _ _ h => h) (Or.inl ⟨by rfl, ?_⟩) (HeldT.past (by kernel_rfl)) ?_
                            rotate_left
                            · intro w _; go_simp
                              (try with_reducible rfl)
                            (try simp only [Act.put])
                            refine wpAnyK_ready (rs := [23]) (by kernel_rfl) (by simp) (AllReadyK.last (o := _) (by kernel_rfl) rfl (fun K hK => ?_) AllReadyK.nil)
                            go_simp
                            refine hK.out _ _ ?_
                            clear hK K
                            (try simp only [Act.put])
                            refine wpAnyK_ready (rs := [24]) (by kernel_rfl) (by simp) (AllReadyK.last (o := _) (by kernel_rfl) rfl (fun K hK => ?_) AllReadyK.nil)
                            go_simp
                            refine hK.out _ _ ?_
                            clear hK K
                            (try simp only [Act.put])
                            refine wpAnyK_done (by kernel_rfl) ?_ _
                            go_wp2_with fail
                            go_meet
                            exact ⟨_, _, _, rfl, M5.out.rows FA.out⟩
                        · have A3 := A2.build (.int .i64 (d : Int)) (k := U.heap.size + 2) (by simp)
                          go_simp
                          refine hK.out _ _ ⟨A3.cell y12 nbt, A3.cell y13 nbt⟩ ?_
                          clear hK K
                          (try simp only [Act.put])
                          refine wpAnyK_ready (rs := [7]) (by kernel_rfl) (by simp) (AllReadyK.cons (o := _) rfl (fun K hK => ?_) AllReadyK.nil)
                          refine step_app_int9 (y := .int .i64 0) (((U.alloc (.cells #[.int .i64 0] 3)).alloc (.cells #[.int .i64 0] 3)).alloc (.cells #[.int .i64 (d : Int)] 3)) rfl (.tmp 89) (.tmp 90) rfl w.heap.size (by rfl) A3.o1 (by rfl) (A3.bs (U.heap.size + 1, .int .i64 0) (.tail _ (.head _))).1 rfl hn5 (Nat.le_trans hb5 A3.gb.size) ?_
                          intro B1 cB1 z1 oB gB bB
                          have A4 := A3.app1 oB gB bB
                          clear oB gB bB
                          refine hK.out _ _ ⟨A4.cell y12 nbt, A4.cell y13 nbt⟩ ?_
                          clear hK K
                          (try simp only [Act.put])
                          refine wpAnyK_ready (rs := [13]) (by kernel_rfl) (by simp) (AllReadyK.cons (o := _) rfl (fun K hK => ?_) AllReadyK.nil)
                          refine step_app_int9 (y := .int .i64 0) z1 rfl (.tmp 95) (.tmp 96) rfl w.heap.size (by rfl) A4.o2 (by rfl) (A4.bs (U.heap.size, .int .i64 0) (.tail _ (.tail _ (.head _)))).1 rfl hn5 (Nat.le_trans hb5 A4.gb.size) ?_
                          intro B2 cB2 z2 oB gB bB
                          have A5 := A4.app2 oB gB bB
                          clear oB gB bB
                          refine hK.out _ _ ⟨A5.cell y12 nbt, A5.cell y13 nbt⟩ ?_
                          clear hK K
                          (try simp only [Act.put])
                          refine wpAnyK_ready (rs := [17]) (by kernel_rfl) (by simp) (AllReadyK.cons (o := _) rfl (fun K hK => ?_) AllReadyK.nil)
                          refine step_app_int9 (y := .int .i64 (d : Int)) z2 rfl (.tmp 98) (.tmp 100) rfl w.heap.size (by rfl) A5.o3 (by rfl) (A5.bs (U.heap.size + 2, .int .i64 (d : Int)) (.head _)).1 rfl hn5 (Nat.le_trans hb5 A5.gb.size) ?_
                          intro B3 cB3 z3 oB gB bB
                          have A6 := A5.app3 oB gB bB
                          clear oB gB bB
                          refine hK.out _ _ ⟨A6.cell y12 nbt, A6.cell y13 nbt⟩ ?_
                          clear hK K
                          (try simp only [Act.put])
                          refine wpAnyK_free (i := 18) (oi := _) (v := ?_) rfl (by kernel_rfl) (by kernel_rfl) (by kernel_rfl) (by kernel_rfl) (fun _ _ _ h => h) (Or.inl ⟨by rfl, ?_⟩) (HeldT.of ⟨A6.cell y12 nbt, A6.cell y13 nbt⟩) ?_
                          rotate_left
                          · intro w _; go_simp
                            (try with_reducible rfl)
                          (try simp only [Act.put])
                          refine wpAnyK_free (i := 19) (oi := _) (v := ?_) rfl (by kernel_rfl) (by kernel_rfl) (by kernel_rfl) (by kernel_rfl) (fun _ _ _ h => h) (Or.inl ⟨by rfl, ?_⟩) (HeldT.of ⟨A6.cell y12 nbt, A6.cell y13 nbt⟩) ?_
                          rotate_left
                          · intro w _; go_simp
                            (try with_reducible rfl)
                          (try simp only [Act.put])
                          have bA := A6.gb.blk M5.out.m.blk nbt
                          have g12 := A6.cell y12 nbt; have g13 := A6.cell y13 nbt; have f12 := blk_frozen bA 12
                          have h13 : (z3.setCell ⟨tb, 12, none⟩ (.slice B1 (n + 1) cB1)).cell? ⟨tb, 13, none⟩ = _ := (World.cell?_setCell_other z3 ⟨tb, 12, none⟩ ⟨tb, 13, none⟩ _ (by simp)).trans g13
                          have f13 : (z3.setCell ⟨tb, 12, none⟩ (.slice B1 (n + 1) cB1)).frozen? ⟨tb, 13, none⟩ = false := blk_frozen (blk_set bA 12 _) 13
                          have FA := Lib.hid A6
                          refine wpAnyK_ready (rs := [20]) (by kernel_rfl) (by simp) (AllReadyK.last (o := _) (by kernel_rfl) rfl (fun K hK => ?_) AllReadyK.nil)
                          go_simp
                          refine hK.out _ _ ?_
                          clear hK K
                          (try simp only [Act.put])
                          refine wpAnyK_free (i := 21) (oi := _) (v := ?_) rfl (by kernel_rfl) (by kernel_rfl) (by kernel_rfl) (by kernel_rfl) (fun _ _ _ h => h) (Or.inl ⟨by rfl, ?_⟩) (HeldT.past (by kernel_rfl)) ?_
                          rotate_left
                          · intro w _; go_simp
                            (try with_reducible rfl)
                          (try simp only [Act.put])
                          refine wpAnyK_free (i := 22) (oi := _) (v := ?_) rfl (by kernel_rfl) (by kernel_rfl) (by kernel_rfl) (by kernel_rfl) (fun _ _ _ h => h) (Or.inl ⟨by rfl, ?_⟩) (HeldT.past (by kernel_rfl)) ?_
                          rotate_left
                          · intro w _; go_simp
                            (try with_reducible rfl)
                          (try simp only [Act.put])
                          refine wpAnyK_ready (rs := [23]) (by kernel_rfl) (by simp) (AllReadyK.last (o := _) (by kernel_rfl) rfl (fun K hK => ?_) AllReadyK.nil)
                          go_simp
                          refine hK.out _ _ ?_
                          clear hK K
                          (try simp only [Act.put])
                          refine wpAnyK_ready (rs := [24]) (by kernel_rfl) (by simp) (AllReadyK.last (o := _) (by kernel_rfl) rfl (fun K hK => ?_) AllReadyK.nil)
                          go_simp
                          refine hK.out _ _ ?_
                          clear hK K
                          (try simp only [Act.put])
                          refine wpAnyK_done (by kernel_rfl) ?_ _
                          go_wp2_with fail
                          go_meet
                          exact ⟨_, _, _, rfl, M5.out.rows FA.out⟩
                      · have A2 := A1.build (.int .i64 (d : Int)) (k := U.heap.size + 1) (by simp)
                        go_simp
                        refine hK.out _ _ ⟨A2.cell y12 nbt, A2.cell y13 nbt⟩ ?_
                        clear hK K
                        (try simp only [Act.put])
                        refine wpAnyK_ready (rs := [6]) (by kernel_rfl) (by simp) (AllReadyK.cons (o := _) rfl (fun K hK => ?_) AllReadyK.nil)
                        have A3 := A2.build (.int .i64 0) (k := U.heap.size + 2) (by simp)
                        go_simp
                        refine hK.out _ _ ⟨A3.cell y12 nbt, A3.cell y13 nbt⟩ ?_
                        clear hK K
                        (try simp only [Act.put])
                        refine wpAnyK_ready (rs := [7]) (by kernel_rfl) (by simp) (AllReadyK.cons (o := _) rfl (fun K hK => ?_) AllReadyK.nil)
                        refine step_app_int9 (y := .int .i64 0) (((U.alloc (.cells #[.int .i64 0] 3)).alloc (.cells #[.int .i64 (d : Int)] 3)).alloc (.cells #[.int .i64 0] 3)) rfl (.tmp 89) (.tmp 90) rfl w.heap.size (by rfl) A3.o1 (by rfl) (A3.bs (U.heap.size + 2, .int .i64 0) (.head _)).1 rfl hn5 (Nat.le_trans hb5 A3.gb.size) ?_
                        intro B1 cB1 z1 oB gB bB
                        have A4 := A3.app1 oB gB bB
                        clear oB gB bB
                        refine hK.out _ _ ⟨A4.cell y12 nbt, A4.cell y13 nbt⟩ ?_
                        clear hK K
                        (try simp only [Act.put])
                        refine wpAnyK_ready (rs := [13]) (by kernel_rfl) (by simp) (AllReadyK.cons (o := _) rfl (fun K hK => ?_) AllReadyK.nil)
                        refine step_app_int9 (y := .int .i64 0) z1 rfl (.tmp 95) (.tmp 96) rfl w.heap.size (by rfl) A4.o2 (by rfl) (A4.bs (U.heap.size, .int .i64 0) (.tail _ (.tail _ (.head _)))).1 rfl hn5 (Nat.le_trans hb5 A4.gb.size) ?_
                        intro B2 cB2 z2 oB gB bB
                        have A5 := A4.app2 oB gB bB
                        clear oB gB bB
                        refine hK.out _ _ ⟨A5.cell y12 nbt, A5.cell y13 nbt⟩ ?_
                        clear hK K
                        (try simp only [Act.put])
                        refine wpAnyK_ready (rs := [17]) (by kernel_rfl) (by simp) (AllReadyK.cons (o := _) rfl (fun K hK => ?_) AllReadyK.nil)
                        refine step_app_int9 (y := .int .i64 (d : Int)) z2 rfl (.tmp 98) (.tmp 100) rfl w.heap.size (by rfl) A5.o3 (by rfl) (A5.bs (U.heap.size + 1, .int .i64 (d : Int)) (.tail _ (.head _))).1 rfl hn5 (Nat.le_trans hb5 A5.gb.size) ?_
                        intro B3 cB3 z3 oB gB bB
                        have A6 := A5.app3 oB gB bB
                        clear oB gB bB
                        refine hK.out _ _ ⟨A6.cell y12 nbt, A6.cell y13 nbt⟩ ?_
                        clear hK K
                        (try simp only [Act.put])
                        refine wpAnyK_free (i := 18) (oi := _) (v := ?_) rfl (by kernel_rfl) (by kernel_rfl) (by kernel_rfl) (by kernel_rfl) (fun _ _ _ h => h) (Or.inl ⟨by rfl, ?_⟩) (HeldT.of ⟨A6.cell y12 nbt, A6.cell y13 nbt⟩) ?_
                        rotate_left
                        · intro w _; go_simp
                          (try with_reducible rfl)
                        (try simp only [Act.put])
                        refine wpAnyK_free (i := 19) (oi := _) (v := ?_) rfl (by kernel_rfl) (by kernel_rfl) (by kernel_rfl) (by kernel_rfl) (fun _ _ _ h => h) (Or.inl ⟨by rfl, ?_⟩) (HeldT.of ⟨A6.cell y12 nbt, A6.cell y13 nbt⟩) ?_
                        rotate_left
                        · intro w _; go_simp
                          (try with_reducible rfl)
                        (try simp only [Act.put])
                        have bA := A6.gb.blk M5.out.m.blk nbt
                        have g12 := A6.cell y12 nbt; have g13 := A6.cell y13 nbt; have f12 := blk_frozen bA 12
                        have h13 : (z3.setCell ⟨tb, 12, none⟩ (.slice B1 (n + 1) cB1)).cell? ⟨tb, 13, none⟩ = _ := (World.cell?_setCell_other z3 ⟨tb, 12, none⟩ ⟨tb, 13, none⟩ _ (by simp)).trans g13
                        have f13 : (z3.setCell ⟨tb, 12, none⟩ (.slice B1 (n + 1) cB1)).frozen? ⟨tb, 13, none⟩ = false := blk_frozen (blk_set bA 12 _) 13
                        have FA := Lib.hid A6
                        refine wpAnyK_ready (rs := [20]) (by kernel_rfl) (by simp) (AllReadyK.last (o := _) (by kernel_rfl) rfl (fun K hK => ?_) AllReadyK.nil)
                        go_simp
                        refine hK.out _ _ ?_
                        clear hK K
                        (try simp only [Act.put])
                        refine wpAnyK_free (i := 21) (oi := _) (v := ?_) rfl (by kernel_rfl) (by kernel_rfl) (by kernel_rfl) (by kernel_rfl) (fun _ _ _ h => h) (Or.inl ⟨by rfl, ?_⟩) (HeldT.past (by kernel_rfl)) ?_
                        rotate_left
                        · intro w _; go_simp
                          (try with_reducible rfl)
                        (try simp only [Act.put])
                        refine wpAnyK_free (i := 22) (oi := _) (v := ?_) rfl (by kernel_rfl) (by kernel_rfl) (by kernel_rfl) (by kernel_rfl) (fun _ _ _ h => h) (Or.inl ⟨by rfl, ?_⟩) (HeldT.past (by kernel_rfl)) ?_
                        rotate_left
                        · intro w _; go_simp
                          (try with_reducible rfl)
                        (try simp only [Act.put])
                        refine wpAnyK_ready (rs := [23]) (by kernel_rfl) (by simp) (AllReadyK.last (o := _) (by kernel_rfl) rfl (fun K hK => ?_) AllReadyK.nil)
                        go_simp
                        refine hK.out _ _ ?_
                        clear hK K
                        (try simp only [Act.put])
                        refine wpAnyK_ready (rs := [24]) (by kernel_rfl) (by simp) (AllReadyK.last (o := _) (by kernel_rfl) rfl (fun K hK => ?_) AllReadyK.nil)
                        go_simp
                        refine hK.out _ _ ?_
                        clear hK K
                        (try simp only [Act.put])
                        refine wpAnyK_done (by kernel_rfl) ?_ _
                        go_wp2_with fail
                        go_meet
                        exact ⟨_, _, _, rfl, M5.out.rows FA.out⟩
                    · have A1 := A0.build (.int .i64 (d : Int)) (k := U.heap.size) (by rfl)
                      go_simp
                      refine hK.out _ _ ⟨A1.cell y12 nbt, A1.cell y13 nbt⟩ ?_
                      clear hK K
                      (try simp only [Act.put])
                      refine wpAnyK_ready (rs := [6, 12]) (by kernel_rfl) (by simp) (AllReadyK.cons (o := _) rfl (fun K hK => ?_) (AllReadyK.cons (o := _) rfl (fun K hK => ?_) AllReadyK.nil))
                      · have A2 := A1.build (.int .i64 0) (k := U.heap.size + 1) (by simp)
                        go_simp
                        refine hK.out _ _ ⟨A2.cell y12 nbt, A2.cell y13 nbt⟩ ?_
                        clear hK K
                        (try simp only [Act.put])
                        refine wpAnyK_ready (rs := [7, 12]) (by kernel_rfl) (by simp) (AllReadyK.cons (o := _) rfl (fun K hK => ?_) (AllReadyK.cons (o := _) rfl (fun K hK => ?_) AllReadyK.nil))
                        · refine step_app_int9 (y := .int .i64 0) ((U.alloc (.cells #[.int .i64 (d : Int)] 3)).alloc (.cells #[.int .i64 0] 3)) rfl (.tmp 89) (.tmp 90) rfl w.heap.size (by rfl) A2.o1 (by rfl) (A2.bs (U.heap.size + 1, .int .i64 0) (.head _)).1 rfl hn5 (Nat.le_trans hb5 A2.gb.size) ?_
                          intro B1 cB1 z1 oB gB bB
                          have A3 := A2.app1 oB gB bB
                          clear oB gB bB
                          refine hK.out _ _ ⟨A3.cell y12 nbt, A3.cell y13 nbt⟩ ?_
                          clear hK K
                          (try simp only [Act.put])
                          refine wpAnyK_ready (rs := [12]) (by kernel_rfl) (by simp) (AllReadyK.cons (o := _) rfl (fun K hK => ?_) AllReadyK.nil)
                          have A4 := A3.build (.int .i64 0) (k := z1.heap.size) (by rfl)
                          go_simp
                          refine hK.out _ _ ⟨A4.cell y12 nbt, A4.cell y13 nbt⟩ ?_
                          clear hK K
                          (try simp only [Act.put])
                          refine wpAnyK_ready (rs := [13]) (by kernel_rfl) (by simp) (AllReadyK.cons (o := _) rfl (fun K hK => ?_) AllReadyK.nil)
                          refine step_app_int9 (y := .int .i64 0) (z1.alloc (.cells #[.int .i64 0] 3)) rfl (.tmp 95) (.tmp 96) rfl w.heap.size (by rfl) A4.o2 (by rfl) (A4.bs (z1.heap.size, .int .i64 0) (.head _)).1 rfl hn5 (Nat.le_trans hb5 A4.gb.size) ?_
                          intro B2 cB2 z2 oB gB bB
                          have A5 := A4.app2 oB gB bB
                          clear oB gB bB
                          refine hK.out _ _ ⟨A5.cell y12 nbt, A5.cell y13 nbt⟩ ?_
                          clear hK K
                          (try simp only [Act.put])
                          refine wpAnyK_ready (rs := [17]) (by kernel_rfl) (by simp) (AllReadyK.cons (o := _) rfl (fun K hK => ?_) AllReadyK.nil)
                          refine step_app_int9 (y := .int .i64 (d : Int)) z2 rfl (.tmp 98) (.tmp 100) rfl w.heap.size (by rfl) A5.o3 (by rfl) (A5.bs (U.heap.size, .int .i64 (d : Int)) (.tail _ (.tail _ (.head _)))).1 rfl hn5 (Nat.le_trans hb5 A5.gb.size) ?_
                          intro B3 cB3 z3 oB gB bB
                          have A6 := A5.app3 oB gB bB
                          clear oB gB bB
                          refine hK.out _ _ ⟨A6.cell y12 nbt, A6.cell y13 nbt⟩ ?_
                          clear hK K
                          (try simp only [Act.put])
                          refine wpAnyK_free (i := 18) (oi := _) (v := ?_) rfl (by kernel_rfl) (by kernel_rfl) (by kernel_rfl) (by kernel_rfl) (fun _ _ _ h => h) (Or.inl ⟨by rfl, ?_⟩) (HeldT.of ⟨A6.cell y12 nbt, A6.cell y13 nbt⟩) ?_
                          rotate_left
                          · intro w _; go_simp
                            (try with_reducible rfl)
                          (try simp only [Act.put])
                          refine wpAnyK_free (i := 19) (oi := _) (v := ?_) rfl (by kernel_rfl) (by kernel_rfl) (by kernel_rfl) (by kernel_rfl) (fun _ _ _ h => h) (Or.inl ⟨by rfl, ?_⟩) (HeldT.of ⟨A6.cell y12 nbt, A6.cell y13 nbt⟩) ?_
                          rotate_left
                          · intro w _; go_simp
                            (try with_reducible rfl)
                          (try simp only [Act.put])
                          have bA := A6.gb.blk M5.out.m.blk nbt
                          have g12 := A6.cell y12 nbt; have g13 := A6.cell y13 nbt; have f12 := blk_frozen bA 12
                          have h13 : (z3.setCell ⟨tb, 12, none⟩ (.slice B1 (n + 1) cB1)).cell? ⟨tb, 13, none⟩ = _ := (World.cell?_setCell_other z3 ⟨tb, 12, none⟩ ⟨tb, 13, none⟩ _ (by simp)).trans g13
                          have f13 : (z3.setCell ⟨tb, 12, none⟩ (.slice B1 (n + 1) cB1)).frozen? ⟨tb, 13, none⟩ = false := blk_frozen (blk_set bA 12 _) 13
                          have FA := Lib.hid A6
                          refine wpAnyK_ready (rs := [20]) (by kernel_rfl) (by simp) (AllReadyK.last (o := _) (by kernel_rfl) rfl (fun K hK => ?_) AllReadyK.nil)
                          go_simp
                          refine hK.out _ _ ?_
                          clear hK K
                          (try simp only [Act.put])
                          refine wpAnyK_free (i := 21) (oi := _) (v := ?_) rfl (by kernel_rfl) (by kernel_rfl) (by kernel_rfl) (by kernel_rfl) (fun _ _ _ h => h) (Or.inl ⟨by rfl, ?_⟩) (HeldT.past (by kernel_rfl)) ?_
                          rotate_left
                          · intro w _; go_simp
                            (try with_reducible rfl)
                          (try simp only [Act.put])
                          refine wpAnyK_free (i := 22) (oi := _) (v := ?_) rfl (by kernel_rfl) (by kernel_rfl) (by kernel_rfl) (by kernel_rfl) (fun _ _ _ h => h) (Or.inl ⟨by rfl, ?_⟩) (HeldT.past (by kernel_rfl)) ?_
                          rotate_left
                          · intro w _; go_simp
                            (try with_reducible rfl)
                          (try simp only [Act.put])
                          refine wpAnyK_ready (rs := [23]) (by kernel_rfl) (by simp) (AllReadyK.last (o := _) (by kernel_rfl) rfl (fun K hK => ?_) AllReadyK.nil)
                          go_simp
                          refine hK.out _ _ ?_
                          clear hK K
                          (try simp only [Act.put])
                          refine wpAnyK_ready (rs := [24]) (by kernel_rfl) (by simp) (AllReadyK.last (o := _) (by kernel_rfl) rfl (fun K hK => ?_) AllReadyK.nil)
                          go_simp
                          refine hK.out _ _ ?_
                          clear hK K
                          (try simp only [Act.put])
                          refine wpAnyK_done (by kernel_rfl) ?_ _
                          go_wp2_with fail
                          go_meet
                          exact ⟨_, _, _, rfl, M5.out.rows FA.out⟩
                        · have A3 := A2.build (.int .i64 0) (k := U.heap.size + 2) (by simp)
                          go_simp
                          refine hK.out _ _ ⟨A3.cell y12 nbt, A3.cell y13 nbt⟩ ?_
                          clear hK K
                          (try simp only [Act.put])
                          refine wpAnyK_ready (rs := [7]) (by kernel_rfl) (by simp) (AllReadyK.cons (o := _) rfl (fun K hK => ?_) AllReadyK.nil)
                          refine step_app_int9 (y := .int .i64 0) (((U.alloc (.cells #[.int .i64 (d : Int)] 3)).alloc (.cells #[.int .i64 0] 3)).alloc (.cells #[.int .i64 0] 3)) rfl (.tmp 89) (.tmp 90) rfl w.heap.size (by rfl) A3.o1 (by rfl) (A3.bs (U.heap.size + 1, .int .i64 0) (.tail _ (.head _))).1 rfl hn5 (Nat.le_trans hb5 A3.gb.size) ?_
                          intro B1 cB1 z1 oB gB bB
                          have A4 := A3.app1 oB gB bB
                          clear oB gB bB
                          refine hK.out _ _ ⟨A4.cell y12 nbt, A4.cell y13 nbt⟩ ?_
                          clear hK K
                          (try simp only [Act.put])
                          refine wpAnyK_ready (rs := [13]) (by kernel_rfl) (by simp) (AllReadyK.cons (o := _) rfl (fun K hK => ?_) AllReadyK.nil)
                          refine step_app_int9 (y := .int .i64 0) z1 rfl (.tmp 95) (.tmp 96) rfl w.heap.size (by rfl) A4.o2 (by rfl) (A4.bs (U.heap.size + 2, .int .i64 0) (.head _)).1 rfl hn5 (Nat.le_trans hb5 A4.gb.size) ?_
                          intro B2 cB2 z2 oB gB bB
                          have A5 := A4.app2 oB gB bB
                          clear oB gB bB
                          refine hK.out _ _ ⟨A5.cell y12 nbt, A5.cell y13 nbt⟩ ?_
                          clear hK K
                          (try simp only [Act.put])
                          refine wpAnyK_ready (rs := [17]) (by kernel_rfl) (by simp) (AllReadyK.cons (o := _) rfl (fun K hK => ?_) AllReadyK.nil)
                          refine step_app_int9 (y := .int .i64 (d : Int)) z2 rfl (.tmp 98) (.tmp 100) rfl w.heap.size (by rfl) A5.o3 (by rfl) (A5.bs (U.heap.size, .int .i64 (d : Int)) (.tail _ (.tail _ (.head _)))).1 rfl hn5 (Nat.le_trans hb5 A5.gb.size) ?_
                          intro B3 cB3 z3 oB gB bB
                          have A6 := A5.app3 oB gB bB
                          clear oB gB bB
                          refine hK.out _ _ ⟨A6.cell y12 nbt, A6.cell y13 nbt⟩ ?_
                          clear hK K
                          (try simp only [Act.put])
                          refine wpAnyK_free (i := 18) (oi := _) (v := ?_) rfl (by kernel_rfl) (by kernel_rfl) (by kernel_rfl) (by kernel_rfl) (fun _ _ _ h => h) (Or.inl ⟨by rfl, ?_⟩) (HeldT.of ⟨A6.cell y12 nbt, A6.cell y13 nbt⟩) ?_
                          rotate_left
                          · intro w _; go_simp
                            (try with_reducible rfl)
                          (try simp only [Act.put])
                          refine wpAnyK_free (i := 19) (oi := _) (v := ?_) rfl (by kernel_rfl) (by kernel_rfl) (by kernel_rfl) (by kernel_rfl) (fun _ _ _ h => h) (Or.inl ⟨by rfl, ?_⟩) (HeldT.of ⟨A6.cell y12 nbt, A6.cell y13 nbt⟩) ?_
                          rotate_left
                          · intro w _; go_simp
                            (try with_reducible rfl)
                          (try simp only [Act.put])
                          have bA := A6.gb.blk M5.out.m.blk nbt
                          have g12 := A6.cell y12 nbt; have g13 := A6.cell y13 nbt; have f12 := blk_frozen bA 12
                          have h13 : (z3.setCell ⟨tb, 12, none⟩ (.slice B1 (n + 1) cB1)).cell? ⟨tb, 13, none⟩ = _ := (World.cell?_setCell_other z3 ⟨tb, 12, none⟩ ⟨tb, 13, none⟩ _ (by simp)).trans g13
                          have f13 : (z3.setCell ⟨tb, 12, none⟩ (.slice B1 (n + 1) cB1)).frozen? ⟨tb, 13, none⟩ = false := blk_frozen (blk_set bA 12 _) 13
                          have FA := Lib.hid A6
                          refine wpAnyK_ready (rs := [20]) (by kernel_rfl) (by simp) (AllReadyK.last (o := _) (by kernel_rfl) rfl (fun K hK => ?_) AllReadyK.nil)
                          go_simp
                          refine hK.out _ _ ?_
                          clear hK K
                          (try simp only [Act.put])
                          refine wpAnyK_free (i := 21) (oi := _) (v := ?_) rfl (by kernel_rfl) (by kernel_rfl) (by kernel_rfl) (by kernel_rfl) (fun _ _ _ h => h) (Or.inl ⟨by rfl, ?_⟩) (HeldT.past (by kernel_rfl)) ?_
                          rotate_left
                          · intro w _; go_simp
                            (try with_reducible rfl)
                          (try simp only [Act.put])
                          refine wpAnyK_free (i := 22) (oi := _) (v := ?_) rfl (by kernel_rfl) (by kernel_rfl) (by kernel_rfl) (by kernel_rfl) (fun _ _ _ h => h) (Or.inl ⟨by rfl, ?_⟩) (HeldT.past (by kernel_rfl)) ?_
                          rotate_left
                          · intro w _; go_simp
                            (try with_reducible rfl)
                          (try simp only [Act.put])
                          refine wpAnyK_ready (rs := [23]) (by kernel_rfl) (by simp) (AllReadyK.last (o := _) (by kernel_rfl) rfl (fun K hK => ?_) AllReadyK.nil)
                          go_simp
                          refine hK.out _ _ ?_
                          clear hK K
                          (try simp only [Act.put])
                          refine wpAnyK_ready (rs := [24]) (by kernel_rfl) (by simp) (AllReadyK.last (o := _) (by kernel_rfl) rfl (fun K hK => ?_) AllReadyK.nil)
                          go_simp
                          refine hK.out _ _ ?_
                          clear hK K
                          (try simp only [Act.put])
                          refine wpAnyK_done (by kernel_rfl) ?_ _
                          go_wp2_with fail
                          go_meet
                          exact ⟨_, _, _, rfl, M5.out.rows FA.out⟩
                      · have A2 := A1.build (.int .i64 0) (k := U.heap.size + 1) (by simp)
                        go_simp
                        refine hK.out _ _ ⟨A2.cell y12 nbt, A2.cell y13 nbt⟩ ?_
                        clear hK K
                        (try simp only [Act.put])
                        refine wpAnyK_ready (rs := [6]) (by kernel_rfl) (by simp) (AllReadyK.cons (o := _) rfl (fun K hK => ?_) AllReadyK.nil)
                        have A3 := A2.build (.int .i64 0) (k := U.heap.size + 2) (by simp)
                        go_simp
                        refine hK.out _ _ ⟨A3.cell y12 nbt, A3.cell y13 nbt⟩ ?_
                        clear hK K
                        (try simp only [Act.put])
                        refine wpAnyK_ready (rs := [7]) (by kernel_rfl) (by simp) (AllReadyK.cons (o := _) rfl (fun K hK => ?_) AllReadyK.nil)
                        refine step_app_int9 (y := .int .i64 0) (((U.alloc (.cells #[.int .i64 (d : Int)] 3)).alloc (.cells #[.int .i64 0] 3)).alloc (.cells #[.int .i64 0] 3)) rfl (.tmp 89) (.tmp 90) rfl w.heap.size (by rfl) A3.o1 (by rfl) (A3.bs (U.heap.size + 2, .int .i64 0) (.head _)).1 rfl hn5 (Nat.le_trans hb5 A3.gb.size) ?_
                        intro B1 cB1 z1 oB gB bB
                        have A4 := A3.app1 oB gB bB
                        clear oB gB bB
                        refine hK.out _ _ ⟨A4.cell y12 nbt, A4.cell y13 nbt⟩ ?_
                        clear hK K
                        (try simp only [Act.put])
                        refine wpAnyK_ready (rs := [13]) (by kernel_rfl) (by simp) (AllReadyK.cons (o := _) rfl (fun K hK => ?_) AllReadyK.nil)
                        refine step_app_int9 (y := .int .i64 0) z1 rfl (.tmp 95) (.tmp 96) rfl w.heap.size (by rfl) A4.o2 (by rfl) (A4.bs (U.heap.size + 1, .int .i64 0) (.tail _ (.head _))).1 rfl hn5 (Nat.le_trans hb5 A4.gb.size) ?_
                        intro B2 cB2 z2 oB gB bB
                        have A5 := A4.app2 oB gB bB
                        clear oB gB bB
                        refine hK.out _ _ ⟨A5.cell y12 nbt, A5.cell y13 nbt⟩ ?_
                        clear hK K
                        (try simp only [Act.put])
                        refine wpAnyK_ready (rs := [17]) (by kernel_rfl) (by simp) (AllReadyK.cons (o := _) rfl (fun K hK => ?_) AllReadyK.nil)
                        refine step_app_int9 (y := .int .i64 (d : Int)) z2 rfl (.tmp 98) (.tmp 100) rfl w.heap.size (by rfl) A5.o3 (by rfl) (A5.bs (U.heap.size, .int .i64 (d : Int)) (.tail _ (.tail _ (.head _)))).1 rfl hn5 (Nat.le_trans hb5 A5.gb.size) ?_
                        intro B3 cB3 z3 oB gB bB
                        have A6 := A5.app3 oB gB bB
                        clear oB gB bB
                        refine hK.out _ _ ⟨A6.cell y12 nbt, A6.cell y13 nbt⟩ ?_
                        clear hK K
                        (try simp only [Act.put])
                        refine wpAnyK_free (i := 18) (oi := _) (v := ?_) rfl (by kernel_rfl) (by kernel_rfl) (by kernel_rfl) (by kernel_rfl) (fun _ _ _ h => h) (Or.inl ⟨by rfl, ?_⟩) (HeldT.of ⟨A6.cell y12 nbt, A6.cell y13 nbt⟩) ?_
                        rotate_left
                        · intro w _; go_simp
                          (try with_reducible rfl)
                        (try simp only [Act.put])
                        refine wpAnyK_free (i := 19) (oi := _) (v := ?_) rfl (by kernel_rfl) (by kernel_rfl) (by kernel_rfl) (by kernel_rfl) (fun _ _ _ h => h) (Or.inl ⟨by rfl, ?_⟩) (HeldT.of ⟨A6.cell y12 nbt, A6.cell y13 nbt⟩) ?_
                        rotate_left
                        · intro w _; go_simp
                          (try with_reducible rfl)
                        (try simp only [Act.put])
                        have bA := A6.gb.blk M5.out.m.blk nbt
                        have g12 := A6.cell y12 nbt; have g13 := A6.cell y13 nbt; have f12 := blk_frozen bA 12
                        have h13 : (z3.setCell ⟨tb, 12, none⟩ (.slice B1 (n + 1) cB1)).cell? ⟨tb, 13, none⟩ = _ := (World.cell?_setCell_other z3 ⟨tb, 12, none⟩ ⟨tb, 13, none⟩ _ (by simp)).trans g13
                        have f13 : (z3.setCell ⟨tb, 12, none⟩ (.slice B1 (n + 1) cB1)).frozen? ⟨tb, 13, none⟩ = false := blk_frozen (blk_set bA 12 _) 13
                        have FA := Lib.hid A6
                        refine wpAnyK_ready (rs := [20]) (by kernel_rfl) (by simp) (AllReadyK.last (o := _) (by kernel_rfl) rfl (fun K hK => ?_) AllReadyK.nil)
                        go_simp
                        refine hK.out _ _ ?_
                        clear hK K
                        (try simp only [Act.put])
                        refine wpAnyK_free (i := 21) (oi := _) (v := ?_) rfl (by kernel_rfl) (by kernel_rfl) (by kernel_rfl) (by kernel_rfl) (fun _ _ _ h => h) (Or.inl ⟨by rfl, ?_⟩) (HeldT.past (by kernel_rfl)) ?_
                        rotate_left
                        · intro w _; go_simp
                          (try with_reducible rfl)
                        (try simp only [Act.put])
                        refine wpAnyK_free (i := 22) (oi := _) (v := ?_) rfl (by kernel_rfl) (by kernel_rfl) (by kernel_rfl) (by kernel_rfl) (fun _ _ _ h => h) (Or.inl ⟨by rfl, ?_⟩) (HeldT.past (by kernel_rfl)) ?_
                        rotate_left
                        · intro w _; go_simp
                          (try with_reducible rfl)
                        (try simp only [Act.put])
                        refine wpAnyK_ready (rs := [23]) (by kernel_rfl) (by simp) (AllReadyK.last (o := _) (by kernel_rfl) rfl (fun K hK => ?_) AllReadyK.nil)
                        go_simp
                        refine hK.out _ _ ?_
                        clear hK K
                        (try simp only [Act.put])
                        refine wpAnyK_ready (rs := [24]) (by kernel_rfl) (by simp) (AllReadyK.last (o := _) (by kernel_rfl) rfl (fun K hK => ?_) AllReadyK.nil)
                        go_simp
                        refine hK.out _ _ ?_
                        clear hK K
                        (try simp only [Act.put])
                        refine wpAnyK_done (by kernel_rfl) ?_ _
                        go_wp2_with fail
                        go_meet
                        exact ⟨_, _, _, rfl, M5.out.rows FA.out⟩
                  case rest =>
                    obtain ⟨vg', vk', vo', rfl, hM6⟩ := hcut
                    have M6 := Lib.hid hM6
                    clear hM6
                    have HR6 := safe_retire HR.out hd4
                    rw [M5.out.m.lg] at HR6
                    have ht6 : t.time ≤ 50000 := by have := M6.out.time; omega
                    have WS := Lib.hid (wstep_ok w wc F4 gx tb (2 * k + 1) d d (n + 1) _ _ _ vg' vk' M6.out.e M6.out.m (by rw [HO3.out]; exact HR6) hd4 (.inr rfl) M6.out.dis (by omega) ht6)
                    clear HR6 ht6
                    go_wp2_with fail
                    refine WS.out.mono ?_
                    rintro e w7 hp
                    obtain ⟨rfl, F7, t7, hM7, hR7⟩ := M6.out.step hp
                    have FIN := Lib.hid (show SafeRd w gx tb (2 * (k + 1)) vo' w7 from ⟨F7, _, t7, _, _, vg', vk', hM7.more (by omega), hR7⟩)
                    clear hp hM7 hR7
                    go_wp2_with fail
                    go_roundw
                    case rel => exact ⟨k + 1, _, rfl, hlt, h400, by go_num, FIN.out⟩
                    case measure => simp [intOf]; omega
                · have q3 : ((o : Int) == 3) = false := by rw [beq_eq_false_iff_ne]; omega
                  have FIN := Lib.hid (show SafeRd w gx tb (2 * (k + 1)) vo W5 from ⟨F4, _, _, own, n, _, vk, M5.out.more (by omega), safe_begin HR.out hd4 ho3⟩)
                  go_wp2_with fail
                  go_roundw
                  case rel => exact ⟨k + 1, _, rfl, hlt, h400, by go_num, FIN.out⟩
                  case measure => simp [intOf]; omega
            · rw [if_neg he] at ST
              have hne : (startErr s d o != 0) = true := by rw [bne_iff_ne]; exact he
              obtain ⟨q, hq⟩ : ∃ q, startErr s d o = q := ⟨_, rfl⟩
              rw [hq] at ST hne
              have STh := Lib.hid ST
              clear ST he hq
              go_wp2_with fail
              (try rw [hW])
              clear hW c0 c1 c2
              refine STh.out.mono ?_
              rintro e w4 ⟨rfl, hgo⟩
              obtain ⟨F4, hM4⟩ := MW.out.go (Nat.le_refl _) hgo
              have FIN := Lib.hid (show SafeRd w gx tb (2 * (k + 1)) vo w4 from ⟨F4, s, t, own, n, _, vk, hM4.more (by omega), HR.out⟩)
              clear hgo hM4
              go_wp2_with fail
              go_roundw
              case rel => exact ⟨k + 1, _, rfl, hlt, h400, by go_num, FIN.out⟩
              case measure => simp [intOf]; omega
        · have HX := Lib.hid hI
          clear hI
          go_wp2_with fail
          go_meet
          exact ⟨2 * k, _, rfl, by omega, HX.out.ext ((Ext.refl wr).alloc _)⟩
      · have HX := Lib.hid hI
        clear hI
        go_wp2_with fail
        go_meet
        exact ⟨2 * k, _, rfl, by omega, HX.out⟩
  case rest =>
    obtain ⟨K0, vo, rfl, hK0, F0, s0, t0, own0, n0, vg0, vk0, hM0, hR0⟩ := hcut
    have HM0 := Lib.hid hM0; have HR0 := Lib.hid hR0
    clear hM0 hR0
    go_wp2_with fail
    go_loopw [112] (fun i wr => ∃ (d K : Nat) (F : Nat → Prop) (s : ESt) (t : Wt) (own : List Nat) (n : Nat) (vg vk : Value), d ≤ 4 ∧ i = .int .i64 (d : Int) ∧ K ≤ 800 + 40 * d ∧ SMem w gx tb K F s t own n vg vk vo wr ∧ SafeR s t own 4 ∧ DoneTo s d) (fun i _ => 4 - (intOf i).toNat)
    case atStart => exact ⟨0, K0, F0, s0, t0, own0, n0, vg0, vk0, by omega, rfl, by omega, HM0.out, HR0.out, fun j hj => absurd hj (Nat.not_lt_zero j)⟩
    case round =>
      obtain ⟨d, K, F, s, t, own, n, vg, vk, hd, rfl, hK, hM, hR, hD⟩ := hrel
      have HM := Lib.hid hM; have HR := Lib.hid hR; have HD := Lib.hid hD
      clear hM hR hD
      by_cases hd4 : d < 4
      · have hdd : (d : Int) < 4 := by omega
        have hdd' : decide ((d : Int) < 4) = true := decide_eq_true hdd
        go_wp2_with fail
        go_loopw [12] (fun v wx => ∃ (j K : Nat) (F : Nat → Prop) (s : ESt) (t : Wt) (own : List Nat) (n : Nat) (vg vk : Value), v = .int .i64 (j : Int) ∧ K ≤ 800 + 40 * d + j ∧ SMem w gx tb K F s t own n vg vk vo wx ∧ SafeR s t own 4 ∧ DoneTo s d ∧ leftOf 4 s d + j ≤ 6) (fun v _ => 30 - (intOf v).toNat)
        case atStart => exact ⟨0, K, F, s, t, own, n, vg, vk, rfl, by omega, HM.out, HR.out, HD.out, left_le⟩
        case round =>
          clear HM HR HD hK
          obtain ⟨j, K, F, s, t, own, n, vg, vk, rfl, hK, hM, hR, hD, hL⟩ := hrel
          have HM := Lib.hid hM; have HR := Lib.hid hR; have HD := Lib.hid hD; have HL := Lib.hid hL
          have PD := Lib.hid (ein_pend w wr F gx 4 K d s hM.e hd4)
          have ht8 : t.time ≤ 50000 := by have := hM.time; omega
          clear hM hR hD
          by_cases hs : (s.wk d).call = .idle
          · rw [(idle_iff _).2 hs] at PD
            have PN := Lib.hid (fun u (x : Ext wr u) => ein_pinned w u F gx 4 K d s (HM.out.e.ext x) hd4)
            obtain ⟨pn, hpn⟩ : ∃ pn, (s.wk d).pinned = pn := ⟨_, rfl⟩
            rw [hpn] at PN
            have HPN := Lib.hid hpn; have HS := Lib.hid hs
            clear hpn hs
            go_wp2_with fail
            refine PD.out.mono ?_
            rintro e w3 ⟨rfl, rfl⟩
            cases pn with
            | false =>
              go_wp2_with fail
              refine (PN.out _ (Ext.refl _)).mono ?_
              rintro e w4 ⟨rfl, rfl⟩
              go_wp2_with fail
              go_roundw
              case rel => exact ⟨d + 1, K, F, s, t, own, n, vg, vk, hd4, by go_num, by omega, HM.out, HR.out, done_next HD.out HS.out HPN.out⟩
              case measure => simp [intOf]; omega
            | true =>
              have he : startErr s d 2 = 0 := by
                unfold startErr
                rw [(idle_iff _).2 HS.out, if_neg (by decide), if_neg (fun e => by rw [HPN.out] at e; cases e.2), if_neg (fun e => by cases e.1), if_neg (fun e => by cases e.1)]
              have ST := ein_start w wr F gx 4 K d 2 0 s HM.out.e hd4 (by omega) (by omega)
              unfold startSt at ST
              rw [if_pos he, he] at ST
              have STh := Lib.hid ST
              clear ST he
              go_wp2_with fail
              refine (PN.out _ (Ext.refl _)).mono ?_
              rintro e w4 ⟨rfl, rfl⟩
              go_wp2_with fail
              refine STh.out.mono ?_
              rintro e w4 ⟨rfl, hgo⟩
              obtain ⟨F4, hM4⟩ := HM.out.go (Nat.le_refl _) hgo
              have M4 := Lib.hid hM4
              clear hgo hM4
              have o4 := M4.out.m.cOps hd4; have b4 := M4.out.m.cBegun hd4; have fo4 := M4.out.m.frz d; have fb4 := M4.out.m.frz (4 + d)
              have M5 := Lib.hid (show SMem w gx tb K F4 (s.put d { s.wk d with call := .begun 2 0 }) { t with ops := t.ops.set d 2, begun := t.begun.set d 0 } own n vg vk vo ((w4.setCell ⟨tb, d, none⟩ (.int .u8 2)).setCell ⟨tb, 4 + d, none⟩ (.int .i64 0)).drew from
                (M4.out.wt (t' := { t with ops := t.ops.set d 2, begun := t.begun.set d 0 }) (w' := ((w4.setCell ⟨tb, d, none⟩ (.int .u8 2)).setCell ⟨tb, 4 + d, none⟩ (.int .i64 0))) ((M4.out.m.putOps hd4 2).putBegun hd4 0) (((GB.refl w4 _).set tb d _ (.inl (.inl rfl))).set tb (4 + d) _ (.inl (.inl rfl))) M4.out.time).ext (Ext.refl _).drew)
              obtain ⟨W5, hW5⟩ : ∃ W5, ((w4.setCell ⟨tb, d, none⟩ (.int .u8 2)).setCell ⟨tb, 4 + d, none⟩ (.int .i64 0)).drew = W5 := ⟨_, rfl⟩
              rw [hW5] at M5
              have HR5 := Lib.hid (safe_begin (op := 2) (th := 0) HR.out hd4 (by omega))
              have WS := Lib.hid (wstep_ok w W5 F4 gx tb K d 4 n _ _ _ vg vk M5.out.e M5.out.m HR5.out hd4 (.inl rfl) M5.out.dis (by omega) ht8)
              go_upto_region 35 with fail
              go_region
              all_goals
                (try rw [hW5])
                clear hW5 o4 b4 fo4 fb4
                go_wp2_with fail
                refine WS.out.mono ?_
                rintro e w7 hp
                obtain ⟨rfl, F7, t7, hM7, hR7⟩ := M5.out.step hp
                have M7 := Lib.hid hM7; have R7 := Lib.hid hR7
                have U7 := Lib.hid (unpin_step (s := s) (d := d) (th := 0))
                have D7 := Lib.hid (done_step (done_put (x := { s.wk d with call := .begun 2 0 }) HD.out))
                clear hp hM7 hR7
                go_wp2_with fail
                go_roundw
                case rel => exact ⟨d + 1, K + 1, F7, _, t7, own, n, vg, vk, hd4, by go_num, by omega, M7.out, R7.out, done_next D7.out U7.out.1 U7.out.2⟩
                case measure => simp [intOf]; omega
          · have hni : isIdle (s.wk d).call = false := by
              cases hi : isIdle (s.wk d).call with
              | false => rfl
              | true => exact absurd ((idle_iff _).1 hi) hs
            rw [hni] at PD
            have WS := Lib.hid (fun u (x : Ext wr u) => wstep_ok w u F gx tb K d 4 n s t own vg vk (HM.out.e.ext x) (HM.out.m.ext x) HR.out hd4 (.inl rfl) HM.out.dis (by omega) ht8)
            have HLN := Lib.hid (left_next HM.out.e.inv.1 hd4 hs HL.out)
            have hj6 : j ≤ 6 := by omega
            have q20 : decide ((20 : Int) < (j : Int)) = false := decide_eq_false (by omega)
            have q20' : decide (20 < j) = false := decide_eq_false (by omega)
            clear hs hni hL
            go_wp2_with fail
            refine PD.out.mono ?_
            rintro e w3 ⟨rfl, rfl⟩
            go_wp2_with fail
            refine (WS.out _ (Ext.refl _)).mono ?_
            rintro e w7 hp
            obtain ⟨rfl, F7, t7, hM7, hR7⟩ := HM.out.step hp
            have M7 := Lib.hid hM7; have R7 := Lib.hid hR7
            have D7 := Lib.hid (done_step HD.out)
            clear hp hM7 hR7
            go_wp2_with fail
            go_roundw
            case rel =>
              exact ⟨j + 1, K + 1, F7, _, t7, own, n, vg, vk, by go_num, by omega, M7.out, R7.out, D7.out, HLN.out⟩
            case measure => simp [intOf]; omega
      · have hE0 : EndOk s := fun j hj => HD.out j (by omega)
        have hdd : ¬ (d : Int) < 4 := by omega
        have hdd' : decide ((d : Int) < 4) = false := decide_eq_false hdd
        obtain ⟨K1, hK1⟩ : ∃ K1, K = K1 := ⟨_, rfl⟩
        have hI0 := Lib.hid HM.out.e.inv.1
        have HE0 := Lib.hid hE0
        have hKb : K ≤ 960 := by omega
        have HLF := Lib.hid (fun x (hx : x < 4) => left_held HR.out hx)
        have HOW := Lib.hid (fun x (hx : x < n) => (HR.out.1.2.2.2.2.2 x (by rw [HM.out.m.lg]; exact hx)).2)
        clear hK hK1 hE0 hd
        go_wp2_with fail
        go_loopw [152] (fun i wx => ∃ (j : Nat) (F' : Nat → Prop) (s' : ESt), j ≤ 3 ∧ i = .int .i64 (j : Int) ∧ SMem w gx tb (K + 7 * j) F' s' t own n vg vk vo wx ∧ AdvTo s s' j) (fun i _ => 3 - (intOf i).toNat)
        case atStart => exact ⟨0, F, s, by omega, rfl, HM.out, HE0.out, rfl, fun _ => rfl⟩
        case round =>
          obtain ⟨j, F', s', hj, rfl, hM', hA'⟩ := hrel
          have HM' := Lib.hid hM'; have HA' := Lib.hid hA'
          clear hM' hA'
          by_cases hj3 : j < 3
          · have hjj : (j : Int) < 3 := by omega
            obtain ⟨s2, hr2, he2, hE2, hh2⟩ := adv_ok HM'.out.e.inv.1 HA'.out.1
            have hst : startErr s' 0 4 = 0 := by
              unfold startErr
              rw [(idle_iff _).2 (HA'.out.1 0 (by omega)).1, if_neg (by decide), if_neg (fun e => by cases e.1), if_neg (fun e => by cases e.1), if_neg (fun e => by cases e.1)]
            have RN0 := erun_ok' w wr F' gx 4 (K + 7 * j) 0 4 0 s' HM'.out.e (by omega) (by omega) (by omega) hst (by omega)
            rw [hr2] at RN0
            obtain ⟨ep, hep⟩ : ∃ ep, s'.ep + 1 = ep := ⟨_, rfl⟩
            rw [hep] at RN0 he2
            have hepb := HM'.out.e.inv.2.1.1
            have hep1 : ((ep : Int) == 0) = false := by rw [beq_eq_false_iff_ne]; omega
            have RN := Lib.hid RN0
            have A2 := Lib.hid (show AdvTo s s2 (j + 1) from ⟨hE2, by rw [he2, ← hep, HA'.out.2.1]; omega, fun w => (hh2 w).trans (HA'.out.2.2 w)⟩)
            clear RN0 hst hr2 he2 hE2 hh2 hep hepb
            go_wp2_with fail
            refine RN.out.mono ?_
            rintro e w3 ⟨A3, m3, q3, F3, rfl, i3, g3, f3, t3⟩
            obtain ⟨F4, hM4⟩ := HM'.out.go (show K + 7 * j ≤ K + 7 * j + (4 + 3) by omega) ⟨F3, i3, g3, f3⟩
            obtain ⟨V, hV⟩ : ∃ V, w3.alloc (.cells #[.bool true, .int .i64 0, .int .i64 (ep : Int), .slice A3 m3 q3] 36) = V := ⟨_, rfl⟩
            have xV : Ext w3 V := by rw [← hV]; exact (Ext.refl w3).alloc _
            have KV := Lib.hid (show V.heap[w3.heap.size]? = some (.cells #[.bool true, .int .i64 0, .int .i64 (ep : Int), .slice A3 m3 q3] 36 (0, 0)) by rw [← hV]; exact blk_new w3 _)
            have M4 := Lib.hid (hM4.ext xV)
            have r1 : V.cell? ⟨w3.heap.size, 1, none⟩ = some (.int .i64 0) := blk_cell KV.out 1
            have r2 : V.cell? ⟨w3.heap.size, 2, none⟩ = some (.int .i64 (ep : Int)) := blk_cell KV.out 2
            clear i3 g3 f3 t3 hM4
            go_wp2_with fail
            (try rw [hV])
            clear hV
            go_wp2_with fail
            go_roundw
            case rel => exact ⟨j + 1, F4, s2, hj3, by go_num, M4.out.more (by omega), A2.out⟩
            case measure => simp [intOf]; omega
          · have hjj : ¬ (j : Int) < 3 := by omega
            have hj3' : j = 3 := by omega
            obtain ⟨kA, kc, rfl, hkc⟩ := own_shape HM'.out.m.ok
            obtain ⟨oA, oc, rfl, hoc⟩ := own_shape HM'.out.o
            have hA3 : Hid (AdvTo s s' 3) := Lib.hid (hj3' ▸ HA'.out)
            have hM3 : Hid (SMem w gx tb (K + 21) F' s' t own n vg (.slice kA n kc) (.slice oA n oc) wr) := Lib.hid (HM'.out.more (by omega))
            have hn960 : n ≤ 2000 := by have := HM.out.len; omega
            obtain ⟨lb, hlb⟩ : ∃ lb, wr.heap.size = lb := ⟨_, rfl⟩
            obtain ⟨W9, hW9⟩ : ∃ W9, wr.alloc (.cells (madeCells #[.int .i64 0] 4) 3) = W9 := ⟨_, rfl⟩
            have x9 : Ext wr W9 := by rw [← hW9]; exact (Ext.refl wr).alloc _
            have L0 := Lib.hid (show W9.heap[lb]? = some (.cells (vals .i64 (leftL own t.taken 0)).toArray 3 (0, 0)) by
              rw [← hlb, ← hW9]
              refine (blk_new wr _).trans (congrArg some ?_)
              congr 1
              apply Array.ext'
              rw [toList_madeCells_one]
              rfl)
            have X9 := Lib.hid x9; have HLB := Lib.hid hlb; have HW9 := Lib.hid hW9
            clear hj3' hj3 x9 hlb hW9 HA' HM'
            go_wp2_with fail
            (try rw [HLB.out])
            (try rw [HW9.out])
            clear HW9
            go_loopw [175] (fun i wx => ∃ j : Nat, j ≤ n ∧ i = .int .i64 (j : Int) ∧ Ext wr wx ∧ wx.heap[lb]? = some (.cells (vals .i64 (leftL own t.taken j)).toArray 3 (0, 0))) (fun i _ => n - (intOf i).toNat)
            case atStart => exact ⟨0, Nat.zero_le _, rfl, X9.out, L0.out⟩
            case round =>
              obtain ⟨j, hj, rfl, hx, hL⟩ := hrel
              have HX := Lib.hid hx; have HL := Lib.hid hL
              have hM5 := hM3.out.ext hx
              clear hx hL
              by_cases hjn : j < n
              · have hjj' : (j : Int) < (n : Int) := by omega
                have hj0 : (0 : Int) ≤ (j : Int) := by omega
                obtain ⟨g6, c6, hv6, _, cx, _⟩ := own_elem hM5.o hjn
                injection hv6 with hv6 _ hv6'
                subst hv6 hv6'
                obtain ⟨g7, c7, hv7, _, ck, _⟩ := own_elem hM5.m.ok hjn
                injection hv7 with hv7 _ hv7'
                subst hv7 hv7'
                have y13 := hM5.m.c13
                have hx4 := HOW.out j hjn
                obtain ⟨x, hx⟩ : ∃ x, own.getD j 0 = x := ⟨_, rfl⟩
                rw [hx] at cx hx4
                have hx0 : (0 : Int) ≤ (x : Int) := by omega
                have hxi : (x : Int) < 4 := by omega
                have hll : (leftL own t.taken j).length = 4 := leftL_len _ _ _
                have cl : wr.cell? ⟨lb, x, none⟩ = some (.int .i64 (((leftL own t.taken j).getD x 0 : Nat) : Int)) := (blk_cell HL.out x).trans (by rw [List.getElem?_toArray]; exact vals_get (getD_some (l := leftL own t.taken j) (i := x) (by rw [hll]; exact hx4)))
                have fl := blk_frozen HL.out x
                obtain ⟨v, hv⟩ : ∃ v, (leftL own t.taken j).getD x 0 = v := ⟨_, rfl⟩
                rw [hv] at cl
                have hvb : v ≤ 2000 := by
                  rw [← hv, leftL_get hx4 j (fun m hm => HOW.out m (by omega))]
                  exact Nat.le_trans (List.length_filter_le _ _) (by rw [List.length_range]; omega)
                have hwv : IntKind.i64.wrap ((v : Int) + 1) = ((v + 1 : Nat) : Int) := by rw [IntKind.wrap_i64]; omega
                obtain ⟨tk, htk⟩ : ∃ tk, t.taken.getD j 0 = tk := ⟨_, rfl⟩
                rw [htk] at ck
                by_cases ht0 : tk = 0
                · have q0 : ((tk : Int) == 0) = true := by rw [beq_iff_eq]; omega
                  have LN := Lib.hid (show (wr.setCell ⟨lb, x, none⟩ (.int .i64 ((v + 1 : Nat) : Int))).heap[lb]? = some (.cells (vals .i64 (leftL own t.taken (j + 1))).toArray 3 (0, 0)) by
                    rw [show leftL own t.taken (j + 1) = (leftL own t.taken j).set (own.getD j 0) ((leftL own t.taken j).getD (own.getD j 0) 0 + 1) from if_pos (htk.trans ht0), hx, hv, vals_set]
                    refine (blk_set HL.out x _).trans ?_
                    simp)
                  have XN := Lib.hid ((GB.back HX.out ((GB.refl wr (· = lb)).set lb x (.int .i64 ((v + 1 : Nat) : Int)) (.inl rfl))).to_ext (Ext.refl _) (fun i e => by rw [e, ← HLB.out]; exact Nat.le_refl _))
                  clear ht0 hM5 hx hv hvb hll htk
                  go_wp2_with fail
                  go_roundw
                  case rel => exact ⟨j + 1, hjn, by go_num, XN.out, LN.out⟩
                  case measure => simp [intOf]; omega
                · have q0 : ((tk : Int) == 0) = false := by rw [beq_eq_false_iff_ne]; omega
                  have LN := Lib.hid (show wr.heap[lb]? = some (.cells (vals .i64 (leftL own t.taken (j + 1))).toArray 3 (0, 0)) by
                    rw [show leftL own t.taken (j + 1) = leftL own t.taken j from if_neg (fun e => ht0 (htk.symm.trans e))]
                    exact HL.out)
                  clear ht0 hM5 hx hv hvb hll htk
                  go_wp2_with fail
                  go_roundw
                  case rel => exact ⟨j + 1, hjn, by go_num, HX.out, LN.out⟩
                  case measure => simp [intOf]; omega
              · have hjj' : ¬ (j : Int) < (n : Int) := by omega
                have hjn' : j = n := by omega
                have HLn : Hid (wr.heap[lb]? = some (.cells (vals .i64 (leftL own t.taken n)).toArray 3 (0, 0))) := Lib.hid (hjn' ▸ HL.out)
                have HM5 := Lib.hid hM5
                have hlF : ¬ F' lb := fun e => by have := hM3.out.e.lt lb e; have := HLB.out; omega
                clear hM5 hjn hjn' hj HL
                go_wp2_with fail
                go_loopw [195] (fun i wx => ∃ (d : Nat) (F9 : Nat → Prop) (s9 : ESt), d ≤ 4 ∧ i = .int .i64 (d : Int) ∧ SMem w gx tb (K + 21 + 7 * d) F9 s9 t own n vg (.slice kA n kc) (.slice oA n oc) wx ∧ CollTo s' s9 d ∧ ¬ F9 lb ∧ wx.heap[lb]? = some (.cells (vals .i64 (leftL own t.taken n)).toArray 3 (0, 0))) (fun i _ => 4 - (intOf i).toNat)
                case atStart => exact ⟨0, F', s', by omega, rfl, HM5.out, ⟨hA3.out.1, rfl, fun w _ => rfl⟩, hlF, HLn.out⟩
                case round =>
                  obtain ⟨d, F9, s9, hd9, rfl, hM9, hC9, hF9, hL9⟩ := hrel
                  have HM9 := Lib.hid hM9; have HC9 := Lib.hid hC9; have HF9 := Lib.hid hF9; have HL9 := Lib.hid hL9
                  clear hM9 hC9 hF9 hL9
                  by_cases hd4' : d < 4
                  · have hddd : (d : Int) < 4 := by omega
                    have hdd0 : (0 : Int) ≤ (d : Int) := by omega
                    have hh9 := HC9.out.2.2 d (Nat.le_refl d)
                    obtain ⟨s2, th, hr2, hth, he2, hE2, hh2, hho⟩ := coll_ok HM9.out.e.inv.1 hd4' HC9.out.1 (fun x hx => by
                      rw [hh9] at hx
                      have h1 := adv_old hA3.out hI0.out hd4' x hx
                      have h2 := HC9.out.2.1
                      omega)
                    have hst : startErr s9 d 5 = 0 := by
                      unfold startErr
                      rw [(idle_iff _).2 (HC9.out.1 d hd4').1, if_neg (by decide), if_neg (fun e => by cases e.1), if_neg (fun e => by cases e.1), if_neg (fun e => by cases e.1)]
                    have RN0 := erun_ok' w wr F9 gx 4 (K + 21 + 7 * d) d 5 0 s9 HM9.out.e hd4' (by omega) (by omega) hst (by omega)
                    rw [hr2] at RN0
                    obtain ⟨v, hv⟩ : ∃ v, (leftL own t.taken n).getD d 0 = v := ⟨_, rfl⟩
                    have hvl : th.length = v := by
                      have h1 := HLF.out d hd4'
                      rw [HM9.out.m.lg, hv] at h1
                      have h2 := hA3.out.2.2 d
                      rw [hth, hh9, h2, h1]
                    obtain ⟨hn9, hhn9⟩ : ∃ hn9, (s9.wk d).held.length = hn9 := ⟨_, rfl⟩
                    rw [hhn9] at RN0
                    have RN := Lib.hid RN0
                    have HVL := Lib.hid hvl; have HV := Lib.hid hv; have HH2 := Lib.hid hh2
                    have C2 := Lib.hid (show CollTo s' s2 (d + 1) from ⟨hE2, he2.trans HC9.out.2.1, fun w hw => (hho w (by omega)).trans (HC9.out.2.2 w (by omega))⟩)
                    clear RN0 hst hr2 he2 hE2 hh2 hho hh9 hth hv hvl hhn9
                    go_wp2_with fail
                    refine RN.out.mono ?_
                    rintro e w3 ⟨A3, m3, q3, F3, rfl, i3, g3, f3, t3⟩
                    have hM3' : SMem w gx tb (K + 21 + 7 * d + (4 + 3)) F3 s2 t own n vg (.slice kA n kc) (.slice oA n oc) w3 := by
                      refine ⟨i3, HM9.out.m.gb g3 HM9.out.dis, fun i hi e => (f3 i e).elim (HM9.out.dis i hi) (fun e => by have := HM9.out.m.lt i hi; omega), Nat.le_trans HM9.out.time (by omega), Nat.le_trans HM9.out.len (by omega), g3.own HM9.out.o (fun q e => (HM9.out.od q e).2), fun q e => ⟨(HM9.out.od q e).1, fun e2 => (f3 q e2).elim (HM9.out.od q e).2 (fun e2 => by have := (HM9.out.o.lt q e).2; omega)⟩⟩
                    have hm3 : m3 = v := by
                      have h1 : th.length = m3 * 1 := by have h8 := t3.1.1; rw [ivals_len] at h8; exact h8
                      have h2 := HVL.out
                      omega
                    subst hm3
                    have L3 := g3.blk HL9.out HF9.out
                    have N3 : ¬ F3 lb := fun e => (f3 lb e).elim HF9.out (fun e => by have := blk_lt HL9.out; omega)
                    obtain ⟨V, hV⟩ : ∃ V, w3.alloc (.cells #[.bool true, .int .i64 0, .int .i64 (hn9 : Int), .slice A3 m3 q3] 36) = V := ⟨_, rfl⟩
                    have xV : Ext w3 V := by rw [← hV]; exact (Ext.refl w3).alloc _
                    have KV := Lib.hid (show V.heap[w3.heap.size]? = some (.cells #[.bool true, .int .i64 0, .int .i64 (hn9 : Int), .slice A3 m3 q3] 36 (0, 0)) by rw [← hV]; exact blk_new w3 _)
                    have MV := Lib.hid (hM3'.ext xV)
                    have LV := Lib.hid (blk_ext L3 xV)
                    have NV := Lib.hid N3
                    have r1 : V.cell? ⟨w3.heap.size, 1, none⟩ = some (.int .i64 0) := blk_cell KV.out 1
                    have r3 : V.cell? ⟨w3.heap.size, 3, none⟩ = some (.slice A3 m3 q3) := blk_cell KV.out 3
                    have cl : V.cell? ⟨lb, d, none⟩ = some (.int .i64 (m3 : Int)) := by
                      refine (blk_cell LV.out d).trans ?_
                      rw [List.getElem?_toArray, ← HV.out]
                      exact vals_get (getD_some (by rw [leftL_len]; exact hd4'))
                    have HH : Hid (∀ u, Ext V u → Calls Try.prog 22 #[.pointer (some ⟨gx, 0, none⟩), .int .i64 (d : Int)] u fun e w' => ∃ A9 c9, e = .returned (.slice A9 0 c9) ∧ Ext u w') := Lib.hid fun u x => (ein_held w u F3 gx 4 (K + 21 + 7 * d + (4 + 3)) d s2 (MV.out.e.ext x) hd4' (by omega)).mono (by
                      rintro e w' ⟨A9, c9, rfl, o9, x9⟩
                      rw [HH2.out]
                      exact ⟨A9, c9, rfl, x9⟩)
                    clear i3 g3 f3 t3 hM3' L3 N3
                    go_upto_region 56 with fail
                    (try rw [hV])
                    clear hV
                    go_cut [227] (fun v wd => v = .bool false ∧ Ext V wd)
                    case first =>
                      go_region_held3 (fun w' => w'.cell? ⟨w3.heap.size, 1, none⟩ = some (.int .i64 0) ∧ w'.cell? ⟨w3.heap.size, 3, none⟩ = some (.slice A3 m3 q3) ∧ w'.cell? ⟨lb, d, none⟩ = some (.int .i64 (m3 : Int)))
                        (((try go_split_ands); refine ⟨?_, ?_, ?_⟩ <;> first | assumption | (with_reducible exact drew_cell r1) | (with_reducible exact drew_cell r3) | (with_reducible exact drew_cell cl) | (with_reducible exact u1) | (with_reducible exact u2) | (with_reducible exact u3)))
                        (first
                          | (go_at_call 22; (with_reducible refine (HH.out V.drew (Ext.refl V).drew).mono ?_); rintro e w9 ⟨A9, c9, rfl, x9⟩; have X9' := Lib.hid ((Ext.refl V).drew.trans x9); have u1 := ext_cell X9'.out r1; have u2 := ext_cell X9'.out r3; have u3 := ext_cell X9'.out cl; clear x9))
                      all_goals
                        go_wp2_with fail
                        go_meet
                        exact ⟨rfl, X9'.out⟩
                    case rest =>
                      obtain ⟨rfl, hx9⟩ := hcut
                      have XX := Lib.hid hx9
                      clear hx9 r1 r3 cl
                      go_wp2_with fail
                      go_roundw
                      case rel => exact ⟨d + 1, F3, s2, hd4', by go_num, (MV.out.ext XX.out).more (by omega), C2.out, NV.out, blk_ext LV.out XX.out⟩
                      case measure => simp [intOf]; omega
                  · have hddd : ¬ (d : Int) < 4 := by omega
                    have FIN := Lib.hid HM9.out.out
                    clear HM9
                    go_wp2_with fail
                    go_ret
                    exact retTrue FIN.out
end Go.Proofs.Ytlgggeeflomelaa
