/- EpochFree answers true. -/
import Derived.Test.YtlgggeeflomelaaEpS
import Derived.Test.YtlgggeeflomelaaEpPick
import Derived.Test.YtlgggeeflomelaaEpAlone
import Derived.Test.YtlgggeeflomelaaFrame
namespace Go.Proofs.Ytlgggeeflomelaa
open Go.RowKit

/-- what EpochFree keeps from round to round -/
def FreeAt (w0 : World) (gx k : Nat) (w : World) : Prop := ∃ F s, EpIn w0 F gx 3 (10 * k) s w ∧ ∀ d, d < 3 → (s.wk d).call = .idle
/-- within a call: r's row at rb -/
def FreeIn (w0 : World) (gx rb k j op was : Nat) (pn : Bool) (h0 : List (Int × Nat)) (pw0 : Nat → Nat) (thing : Int) (who : Nat) (dn : Bool) (w : World) : Prop :=
  ∃ (F : Nat → Prop) (s : ESt) (A : Option Addr) (m q er nu : Nat), EpIn w0 F gx 3 (10 * k + j) s w ∧ ¬ F rb ∧ w0.heap.size ≤ rb ∧ w.heap[rb]? = some (.cells #[.bool dn, .int .i64 (er : Int), .int .i64 (nu : Int), .slice A m q] 36 (0, 0)) ∧
    (∀ d, d < 3 → d ≠ who → (s.wk d).call = .idle) ∧ j ≤ 5 ∧
    ((dn = false ∧ AloneOk op was pn h0 pw0 thing who s ∧ leftOf 3 s who + j ≤ 5) ∨ (dn = true ∧ ∃ th, FinOk 3 op was pn h0 pw0 thing who s ⟨true, er, nu, th⟩))
theorem free_err {s : ESt} {d o : Nat} (hi : (s.wk d).call = .idle) (hl : (s.wk d).held.length < 4096) :
    (o = 2 ∧ (s.wk d).pinned = false ∧ startErr s d o = 7) ∨ (o = 1 ∧ (s.wk d).pinned = true ∧ startErr s d o = 8) ∨ (startErr s d o = 0 ∧ (o = 1 → (s.wk d).pinned = false) ∧ (o = 2 → (s.wk d).pinned = true)) := by
  unfold startErr
  have h0 : isIdle (s.wk d).call = true := (idle_iff _).2 hi
  rw [if_neg (by rw [h0]; decide)]
  by_cases e2 : o = 2 ∧ (s.wk d).pinned = false
  · exact .inl ⟨e2.1, e2.2, if_pos e2⟩
  · rw [if_neg e2]
    by_cases e1 : o = 1 ∧ (s.wk d).pinned = true
    · exact .inr (.inl ⟨e1.1, e1.2, if_pos e1⟩)
    · rw [if_neg e1, if_neg (by omega)]
      refine .inr (.inr ⟨rfl, fun e => ?_, fun e => ?_⟩)
      · cases hp : (s.wk d).pinned with
        | false => rfl
        | true => exact absurd ⟨e, hp⟩ e1
      · cases hp : (s.wk d).pinned with
        | true => rfl
        | false => exact absurd ⟨e, hp⟩ e2
theorem free_left (o : Nat) : (if o = 1 then 3 else if o = 4 then 3 + 2 else 1) + 0 ≤ 5 := by
  split
  · omega
  · split <;> omega
set_option maxHeartbeats 16000000 in
set_option maxRecDepth 100000 in
theorem epochFree_walk (w : World) (A : Option Addr) (m c : Nat) (R : List (List Int)) (hl : R.length = m) (hk : RecsOk epickKs R) (hr : Rd w A (R.flatMap (recVals epickKs))) (_hnc : m ≤ c) (_hz : m ≤ 8796093021952) :
    Calls Try.prog 3 #[.slice A m c] w (RetTrue w) := by
  have Hl := Lib.hid hl; have Hk := Lib.hid hk; have Hr := Lib.hid hr
  clear hl hk hr
  go_enter Try.func3, Try.ntmps3
  go_wp2_with fail
  refine (epAwake w).mono ?_
  rintro e w1 ⟨rfl, hx1⟩
  go_wp2_with fail
  refine (ein_new 3 w w1 hx1 (by omega) (by omega)).mono ?_
  rintro e w2 ⟨gx, F2, rfl, h2, _⟩
  have H2 := Lib.hid (show FreeAt w gx 0 w2 from ⟨F2, eInit, h2, fun _ _ => rfl⟩)
  clear h2
  go_upto_block 0 with fail
  go_cut [] (fun wd => Ext w wd)
  case first =>
    go_wp2_with fail
    go_loopw [28] (fun i wr => ∃ k : Nat, k ≤ m ∧ k ≤ 200 ∧ i = .int .i64 (k : Int) ∧ FreeAt w gx k wr) (fun i _ => m - (intOf i).toNat)
    case atStart => exact ⟨0, Nat.zero_le _, by omega, rfl, H2.out⟩
    case round =>
      obtain ⟨k, hk, hk2, rfl, F, s, hI, hidle⟩ := hrel
      have HI := Lib.hid hI
      have HID := Lib.hid hidle
      by_cases hlt : k < m
      · obtain ⟨r, hr⟩ : ∃ r, R[k]? = some r := ⟨_, List.getElem?_eq_getElem (by rw [Hl.out]; exact hlt)⟩
        obtain ⟨who, op, th, rfl, hwho, hop, hth⟩ := epick_row Hk.out hr
        obtain ⟨b, off, hA, _, c0, c1, c2⟩ := epick_cells (Hr.out.ext hI.out) Hk.out hr
        subst hA
        clear hr hI hidle
        by_cases h200 : k < 200
        · obtain ⟨u, d, hu, hd0, hd3⟩ := umod (who := who) 3 (by omega)
          have hd : (u : Int) % 3 = (d : Int) := hd0
          clear hd0
          obtain ⟨o, ho, ho1, ho5⟩ : ∃ o : Nat, (1 : Int) + (op : Int) % 5 = (o : Int) ∧ 1 ≤ o ∧ o ≤ 5 := ⟨1 + op % 5, by omega, by omega, by omega⟩
          obtain ⟨W, hW⟩ : ∃ W, wr.alloc (.cells #[.int .i64 who, .int .u8 (op : Int), .int .i64 th] 29) = W := ⟨_, rfl⟩
          have xW : Ext wr W := by rw [← hW]; exact (Ext.refl wr).alloc _
          have KP := Lib.hid (show W.heap[wr.heap.size]? = some (.cells #[.int .i64 who, .int .u8 (op : Int), .int .i64 th] 29 (0, 0)) by rw [← hW]; exact blk_new wr _)
          have e0 : W.cell? ⟨wr.heap.size, 0, none⟩ = some (.int .i64 who) := blk_cell KP.out 0
          have e1 : W.cell? ⟨wr.heap.size, 1, none⟩ = some (.int .u8 (op : Int)) := blk_cell KP.out 1
          have PN := Lib.hid (ein_pinned w W F gx 3 (10 * k) d s (HI.out.ext xW) hd3)
          have ST := Lib.hid (ein_start w W F gx 3 (10 * k) d o (k : Int) s (HI.out.ext xW) hd3 ho1 ho5)
          have hcase := free_err (o := o) (HID.out d hd3) (by have := (HI.out.inv.2.1.2 d).2; omega : ((s.wk d).held.length < 4096))
          obtain ⟨pn, hpn⟩ : ∃ pn, Hid ((s.wk d).pinned = pn) := ⟨_, rfl⟩
          rw [hpn.out] at PN hcase
          rcases hcase with ⟨ho2, hpf, he⟩ | ⟨ho2, hpt, he⟩ | ⟨he, hp1, hp2⟩
          · subst hpf
            unfold startSt at ST
            rw [if_neg (by rw [he]; decide), he] at ST
            have q1 : ((o : Int) == 1) = false := by rw [beq_eq_false_iff_ne]; omega
            have q2 : ((o : Int) == 2) = true := by rw [beq_iff_eq]; omega
            have q4 : ((o : Int) == 4) = false := by rw [beq_eq_false_iff_ne]; omega
            have p2 : ((o : Int) != 2) = false := by rw [bne_eq_false_iff_eq]; omega
            have p4 : ((o : Int) != 4) = true := by rw [bne_iff_ne]; omega
            clear ho2 he
            go_wp2_with fail
            (try rw [hW])
            clear hW c0 c1 c2
            refine PN.out.mono ?_
            rintro e w3 ⟨rfl, rfl⟩
            go_wp2_with fail
            refine ST.out.mono ?_
            rintro e w4 ⟨rfl, F4, i4, g4, f4⟩
            have H4 := Lib.hid (show FreeAt w gx (k + 1) w4 from ⟨F4, s, i4.more (by omega), HID.out⟩)
            clear i4 g4 f4
            go_wp2_with fail
            go_roundw
            case rel => exact ⟨k + 1, hlt, h200, by go_num, H4.out⟩
            case measure => simp [intOf]; omega
          · subst hpt
            unfold startSt at ST
            rw [if_neg (by rw [he]; decide), he] at ST
            have q1 : ((o : Int) == 1) = true := by rw [beq_iff_eq]; omega
            have q2 : ((o : Int) == 2) = false := by rw [beq_eq_false_iff_ne]; omega
            have q4 : ((o : Int) == 4) = false := by rw [beq_eq_false_iff_ne]; omega
            have p2 : ((o : Int) != 2) = true := by rw [bne_iff_ne]; omega
            have p4 : ((o : Int) != 4) = true := by rw [bne_iff_ne]; omega
            clear ho2 he
            go_wp2_with fail
            (try rw [hW])
            clear hW c0 c1 c2
            refine PN.out.mono ?_
            rintro e w3 ⟨rfl, rfl⟩
            go_wp2_with fail
            refine ST.out.mono ?_
            rintro e w4 ⟨rfl, F4, i4, g4, f4⟩
            have H4 := Lib.hid (show FreeAt w gx (k + 1) w4 from ⟨F4, s, i4.more (by omega), HID.out⟩)
            clear i4 g4 f4
            go_wp2_with fail
            go_roundw
            case rel => exact ⟨k + 1, hlt, h200, by go_num, H4.out⟩
            case measure => simp [intOf]; omega
          · unfold startSt at ST
            rw [if_pos he, he] at ST
            rcases (by omega : o = 1 ∨ o = 2 ∨ o = 3 ∨ o = 4 ∨ o = 5) with oe | oe | oe | oe | oe
            · have q1 : ((o : Int) == 1) = true := by rw [beq_iff_eq]; omega
              have q2 : ((o : Int) == 2) = false := by rw [beq_eq_false_iff_ne]; omega
              have q4 : ((o : Int) == 4) = false := by rw [beq_eq_false_iff_ne]; omega
              have p2 : ((o : Int) != 2) = true := by rw [bne_iff_ne]; omega
              have p4 : ((o : Int) != 4) = true := by rw [bne_iff_ne]; omega
              have hpf := hp1 oe
              subst hpf
              have OE := Lib.hid oe
              clear he hp1 hp2 oe
              go_wp2_with fail
              (try rw [hW])
              clear hW c0 c1 c2
              refine PN.out.mono ?_
              rintro e w3 ⟨rfl, rfl⟩
              go_wp2_with fail
              refine ST.out.mono ?_
              rintro e w4 ⟨rfl, F4, i4, g4, f4⟩
              have hB4 := i4.inv.2.1.1
              have EPC := Lib.hid (ein_epoch w w4 F4 gx 3 (10 * k) _ i4 (by omega))
              have hep4 : (s.put d { s.wk d with call := .begun o (k : Int) }).ep = s.ep := rfl
              rw [hep4] at EPC hB4
              obtain ⟨was, hwas⟩ : ∃ was, Hid (s.ep = was) := ⟨_, rfl⟩
              rw [hwas.out] at EPC hB4
              have hwas1 : IntKind.i64.wrap ((was : Int) + 1) = (was : Int) + 1 := by rw [IntKind.wrap_i64]; omega
              obtain ⟨rb, hrb⟩ : ∃ rb, w4.heap.size = rb := ⟨_, rfl⟩
              have xr : Ext w4 (w4.alloc (.cells #[.bool false, .int .i64 0, .int .i64 0, .slice none 0 0] 36)) := (Ext.refl w4).alloc _
              have h0 := Lib.hid (show FreeIn w gx rb k 0 o was false (s.wk d).held s.pw (k : Int) d false (w4.alloc (.cells #[.bool false, .int .i64 0, .int .i64 0, .slice none 0 0] 36)) from ⟨F4, _, none, 0, 0, 0, 0, (i4.ext xr).more (by omega), fun e => by rw [← hrb] at e; exact Nat.lt_irrefl _ (i4.lt _ e), by have := i4.out.size; omega, by rw [← hrb]; exact blk_new w4 _, fun d' hd' hne => by rw [put_other s _ hne]; exact HID.out d' hd', by omega, .inl ⟨rfl, by rw [← hwas.out, ← hpn.out]; exact alone_start, by unfold leftOf; rw [put_self]; show (if o = 1 then 3 else if o = 4 then 3 + 2 else 1) + 0 ≤ 5; exact free_left o⟩⟩)
              clear i4 g4 f4 xr hep4
              obtain ⟨hh, hhh⟩ : ∃ hh, Hid ((s.wk d).held = hh) := ⟨_, rfl⟩
              obtain ⟨pw0, hpw0⟩ : ∃ pw0, Hid (s.pw = pw0) := ⟨_, rfl⟩
              rw [hhh.out, hpw0.out] at h0
              go_wp2_with fail
              refine EPC.out.mono ?_
              rintro e w5 ⟨rfl, rfl⟩
              go_wp2_with fail
              (try rw [hrb])
              clear hrb
              go_loopw [10, 13] (fun fv nv wx => ∃ (j : Nat) (dn : Bool), fv = .int .i64 0 ∧ nv = .int .i64 (j : Int) ∧ FreeIn w gx rb k j o was false hh pw0 (k : Int) d dn wx) (fun _ nv _ => 10 - (intOf nv).toNat)
              case atStart => exact ⟨0, false, rfl, rfl, h0.out⟩
              case round =>
                obtain ⟨j, dn, rfl, rfl, Fx, sx, Ax, mx, qx, er, nu, ix, nx, lx, kx, ox, jx, cx⟩ := hrel
                have r0 := blk_cell kx 0; have r1 := blk_cell kx 1; have r2 := blk_cell kx 2; have r3 := blk_cell kx 3
                have z0 := blk_frozen kx 0; have z1 := blk_frozen kx 1; have z2 := blk_frozen kx 2; have z3 := blk_frozen kx 3
                have IX := Lib.hid ix; have KX := Lib.hid kx; have OX := Lib.hid ox
                cases dn with
                | false =>
                  rcases cx with ⟨_, hal, hlf⟩ | ⟨hh9, _⟩
                  case inr => cases hh9
                  have hj7 : ¬ (7 : Int) < (j : Int) := by omega
                  have hbz := alone_busy hal
                  have hpos := left_pos (n := 3) hbz
                  have HLS := Lib.hid (left_step ix.inv.1 hd3 hbz)
                  have HAL := Lib.hid (alone_step ix.inv.1 hd3 hal)
                  have SPx := ein_step w wr Fx gx 3 (10 * k + j) d sx ix hd3 hbz (by omega)
                  have OTH := Lib.hid (fun w' (h : w' ≠ d) => step_other (n := 3) (s := sx) h)
                  obtain ⟨⟨s2, ⟨dn2, er2, nu2, th2⟩⟩, hp⟩ : ∃ p, eStep 3 sx d = p := ⟨_, rfl⟩
                  rw [hp] at SPx HLS HAL OTH
                  have SP := Lib.hid SPx
                  have HLF := Lib.hid hlf; have HPOS := Lib.hid hpos
                  clear ix kx ox hal hbz SPx hp hlf hpos r0 r1 r2 r3 z0 z1 z2 z3
                  have r0 := blk_cell KX.out 0
                  go_wp2_with fail
                  refine SP.out.mono ?_
                  rintro e w7 ⟨A7, m7, q7, F7, rfl, i7, g7, f7, t7⟩
                  have k7 := g7.blk KX.out nx
                  have c70 := blk_cell k7 0; have c71 := blk_cell k7 1; have c72 := blk_cell k7 2; have c73 := blk_cell k7 3
                  have z70 := blk_frozen k7 0; have z71 := blk_frozen k7 1; have z72 := blk_frozen k7 2; have z73 := blk_frozen k7 3
                  have n7 : ¬ F7 rb := fun e => (f7 _ e).elim nx (fun e => by have := blk_lt KX.out; omega)
                  have gp := put4_gb w7 rb (.bool dn2) (.int .i64 (er2 : Int)) (.int .i64 (nu2 : Int)) (.slice A7 m7 q7)
                  have NX := Lib.hid (show FreeIn w gx rb k (j + 1) o was false hh pw0 (k : Int) d dn2 (put4 w7 rb (.bool dn2) (.int .i64 (er2 : Int)) (.int .i64 (nu2 : Int)) (.slice A7 m7 q7)) from ⟨F7, s2, A7, m7, q7, er2, nu2, i7.gb gp (fun i hi e => n7 (e ▸ hi)) (fun i e => by omega), n7, lx, row4 k7 _ _ _ _, fun d' hd' hne => by rw [show s2.wk d' = sx.wk d' from OTH.out d' hne]; exact OX.out d' hd' hne, by have := HLF.out; have := HPOS.out; omega, by
                    rcases HAL.out with ⟨hd2, hf2⟩ | ⟨hd2, ha2⟩
                    · have hd2' : dn2 = true := hd2
                      subst hd2'
                      exact .inr ⟨rfl, th2, hf2⟩
                    · have hd2' : dn2 = false := hd2
                      subst hd2'
                      rcases HLS.out with ⟨hh8, _⟩ | ⟨_, _, hl2, _⟩
                      · cases hh8
                      · have hl2' : leftOf 3 s2 d + 1 ≤ leftOf 3 sx d := hl2
                        exact .inl ⟨rfl, ha2, by have := HLF.out; omega⟩⟩)
                  clear i7 g7 f7 t7 k7 gp n7
                  go_wp2_with fail
                  go_roundw
                  case rel => exact ⟨j + 1, dn2, rfl, by go_num, NX.out⟩
                  case measure => simp [intOf]; omega
                | true =>
                  rcases cx with ⟨hh9, _⟩ | ⟨_, th9, hci, hfin⟩
                  case inl => cases hh9
                  have HFA := Lib.hid (show FreeAt w gx (k + 1) wr from ⟨Fx, sx, ix.more (by omega), fun d' hd' => by
                    by_cases hne : d' = d
                    · subst hne; exact hci
                    · exact ox d' hd' hne⟩)
                  have PN2 := ein_pinned w wr Fx gx 3 (10 * k + j) d sx ix hd3
                  have EP2 := fun (u : World) (x : Ext wr u) => ein_epoch w u Fx gx 3 (10 * k + j) sx (ix.ext x) (by omega)
                  clear ix kx ox hci
                  rcases hfin with ⟨o9, hpb, hep', -, hrr⟩ | ⟨o9, hpb, hep', -, hrr⟩ | ⟨o9, hpb, hep', -, hrr⟩ | ⟨o9, hpb, -, -, hrr⟩ | ⟨o9, hpb, hep', -, hrr⟩
                  · clear hrr o9
                    rw [hpb] at PN2
                    rw [hep'] at EP2
                    have PN3 := Lib.hid PN2; have EP3 := Lib.hid EP2
                    clear hpb hep' PN2 EP2
                    go_wp2_with fail
                    refine PN3.out.mono ?_
                    rintro e w8 ⟨rfl, rfl⟩
                    go_wp2_with fail
                    go_quiet ((go_at_call 17; exact quiet_eq (EP3.out _ ((Ext.refl wr).drewN _))))
                    go_wp2_with fail
                    go_roundw
                    case rel => exact ⟨k + 1, hlt, h200, by go_num, by obtain ⟨F', s', a, b⟩ := HFA.out; exact ⟨F', s', a.ext ((Ext.refl wr).drewN _), b⟩⟩
                    case measure => simp [intOf]; omega
                  · have oe := OE.out; omega
                  · have oe := OE.out; omega
                  · have oe := OE.out; omega
                  · have oe := OE.out; omega
            · have q1 : ((o : Int) == 1) = false := by rw [beq_eq_false_iff_ne]; omega
              have q2 : ((o : Int) == 2) = true := by rw [beq_iff_eq]; omega
              have q4 : ((o : Int) == 4) = false := by rw [beq_eq_false_iff_ne]; omega
              have p2 : ((o : Int) != 2) = false := by rw [bne_eq_false_iff_eq]; omega
              have p4 : ((o : Int) != 4) = true := by rw [bne_iff_ne]; omega
              have hpf := hp2 oe
              subst hpf
              have OE := Lib.hid oe
              clear he hp1 hp2 oe
              go_wp2_with fail
              (try rw [hW])
              clear hW c0 c1 c2
              refine PN.out.mono ?_
              rintro e w3 ⟨rfl, rfl⟩
              go_wp2_with fail
              refine ST.out.mono ?_
              rintro e w4 ⟨rfl, F4, i4, g4, f4⟩
              have hB4 := i4.inv.2.1.1
              have EPC := Lib.hid (ein_epoch w w4 F4 gx 3 (10 * k) _ i4 (by omega))
              have hep4 : (s.put d { s.wk d with call := .begun o (k : Int) }).ep = s.ep := rfl
              rw [hep4] at EPC hB4
              obtain ⟨was, hwas⟩ : ∃ was, Hid (s.ep = was) := ⟨_, rfl⟩
              rw [hwas.out] at EPC hB4
              have hwas1 : IntKind.i64.wrap ((was : Int) + 1) = (was : Int) + 1 := by rw [IntKind.wrap_i64]; omega
              obtain ⟨rb, hrb⟩ : ∃ rb, w4.heap.size = rb := ⟨_, rfl⟩
              have xr : Ext w4 (w4.alloc (.cells #[.bool false, .int .i64 0, .int .i64 0, .slice none 0 0] 36)) := (Ext.refl w4).alloc _
              have h0 := Lib.hid (show FreeIn w gx rb k 0 o was true (s.wk d).held s.pw (k : Int) d false (w4.alloc (.cells #[.bool false, .int .i64 0, .int .i64 0, .slice none 0 0] 36)) from ⟨F4, _, none, 0, 0, 0, 0, (i4.ext xr).more (by omega), fun e => by rw [← hrb] at e; exact Nat.lt_irrefl _ (i4.lt _ e), by have := i4.out.size; omega, by rw [← hrb]; exact blk_new w4 _, fun d' hd' hne => by rw [put_other s _ hne]; exact HID.out d' hd', by omega, .inl ⟨rfl, by rw [← hwas.out, ← hpn.out]; exact alone_start, by unfold leftOf; rw [put_self]; show (if o = 1 then 3 else if o = 4 then 3 + 2 else 1) + 0 ≤ 5; exact free_left o⟩⟩)
              clear i4 g4 f4 xr hep4
              obtain ⟨hh, hhh⟩ : ∃ hh, Hid ((s.wk d).held = hh) := ⟨_, rfl⟩
              obtain ⟨pw0, hpw0⟩ : ∃ pw0, Hid (s.pw = pw0) := ⟨_, rfl⟩
              rw [hhh.out, hpw0.out] at h0
              go_wp2_with fail
              refine EPC.out.mono ?_
              rintro e w5 ⟨rfl, rfl⟩
              go_wp2_with fail
              (try rw [hrb])
              clear hrb
              go_loopw [10, 13] (fun fv nv wx => ∃ (j : Nat) (dn : Bool), fv = .int .i64 0 ∧ nv = .int .i64 (j : Int) ∧ FreeIn w gx rb k j o was true hh pw0 (k : Int) d dn wx) (fun _ nv _ => 10 - (intOf nv).toNat)
              case atStart => exact ⟨0, false, rfl, rfl, h0.out⟩
              case round =>
                obtain ⟨j, dn, rfl, rfl, Fx, sx, Ax, mx, qx, er, nu, ix, nx, lx, kx, ox, jx, cx⟩ := hrel
                have r0 := blk_cell kx 0; have r1 := blk_cell kx 1; have r2 := blk_cell kx 2; have r3 := blk_cell kx 3
                have z0 := blk_frozen kx 0; have z1 := blk_frozen kx 1; have z2 := blk_frozen kx 2; have z3 := blk_frozen kx 3
                have IX := Lib.hid ix; have KX := Lib.hid kx; have OX := Lib.hid ox
                cases dn with
                | false =>
                  rcases cx with ⟨_, hal, hlf⟩ | ⟨hh9, _⟩
                  case inr => cases hh9
                  have hj7 : ¬ (7 : Int) < (j : Int) := by omega
                  have hbz := alone_busy hal
                  have hpos := left_pos (n := 3) hbz
                  have HLS := Lib.hid (left_step ix.inv.1 hd3 hbz)
                  have HAL := Lib.hid (alone_step ix.inv.1 hd3 hal)
                  have SPx := ein_step w wr Fx gx 3 (10 * k + j) d sx ix hd3 hbz (by omega)
                  have OTH := Lib.hid (fun w' (h : w' ≠ d) => step_other (n := 3) (s := sx) h)
                  obtain ⟨⟨s2, ⟨dn2, er2, nu2, th2⟩⟩, hp⟩ : ∃ p, eStep 3 sx d = p := ⟨_, rfl⟩
                  rw [hp] at SPx HLS HAL OTH
                  have SP := Lib.hid SPx
                  have HLF := Lib.hid hlf; have HPOS := Lib.hid hpos
                  clear ix kx ox hal hbz SPx hp hlf hpos r0 r1 r2 r3 z0 z1 z2 z3
                  have r0 := blk_cell KX.out 0
                  go_wp2_with fail
                  refine SP.out.mono ?_
                  rintro e w7 ⟨A7, m7, q7, F7, rfl, i7, g7, f7, t7⟩
                  have k7 := g7.blk KX.out nx
                  have c70 := blk_cell k7 0; have c71 := blk_cell k7 1; have c72 := blk_cell k7 2; have c73 := blk_cell k7 3
                  have z70 := blk_frozen k7 0; have z71 := blk_frozen k7 1; have z72 := blk_frozen k7 2; have z73 := blk_frozen k7 3
                  have n7 : ¬ F7 rb := fun e => (f7 _ e).elim nx (fun e => by have := blk_lt KX.out; omega)
                  have gp := put4_gb w7 rb (.bool dn2) (.int .i64 (er2 : Int)) (.int .i64 (nu2 : Int)) (.slice A7 m7 q7)
                  have NX := Lib.hid (show FreeIn w gx rb k (j + 1) o was true hh pw0 (k : Int) d dn2 (put4 w7 rb (.bool dn2) (.int .i64 (er2 : Int)) (.int .i64 (nu2 : Int)) (.slice A7 m7 q7)) from ⟨F7, s2, A7, m7, q7, er2, nu2, i7.gb gp (fun i hi e => n7 (e ▸ hi)) (fun i e => by omega), n7, lx, row4 k7 _ _ _ _, fun d' hd' hne => by rw [show s2.wk d' = sx.wk d' from OTH.out d' hne]; exact OX.out d' hd' hne, by have := HLF.out; have := HPOS.out; omega, by
                    rcases HAL.out with ⟨hd2, hf2⟩ | ⟨hd2, ha2⟩
                    · have hd2' : dn2 = true := hd2
                      subst hd2'
                      exact .inr ⟨rfl, th2, hf2⟩
                    · have hd2' : dn2 = false := hd2
                      subst hd2'
                      rcases HLS.out with ⟨hh8, _⟩ | ⟨_, _, hl2, _⟩
                      · cases hh8
                      · have hl2' : leftOf 3 s2 d + 1 ≤ leftOf 3 sx d := hl2
                        exact .inl ⟨rfl, ha2, by have := HLF.out; omega⟩⟩)
                  clear i7 g7 f7 t7 k7 gp n7
                  go_wp2_with fail
                  go_roundw
                  case rel => exact ⟨j + 1, dn2, rfl, by go_num, NX.out⟩
                  case measure => simp [intOf]; omega
                | true =>
                  rcases cx with ⟨hh9, _⟩ | ⟨_, th9, hci, hfin⟩
                  case inl => cases hh9
                  have HFA := Lib.hid (show FreeAt w gx (k + 1) wr from ⟨Fx, sx, ix.more (by omega), fun d' hd' => by
                    by_cases hne : d' = d
                    · subst hne; exact hci
                    · exact ox d' hd' hne⟩)
                  have PN2 := ein_pinned w wr Fx gx 3 (10 * k + j) d sx ix hd3
                  have EP2 := fun (u : World) (x : Ext wr u) => ein_epoch w u Fx gx 3 (10 * k + j) sx (ix.ext x) (by omega)
                  clear ix kx ox hci
                  rcases hfin with ⟨o9, hpb, hep', -, hrr⟩ | ⟨o9, hpb, hep', -, hrr⟩ | ⟨o9, hpb, hep', -, hrr⟩ | ⟨o9, hpb, -, -, hrr⟩ | ⟨o9, hpb, hep', -, hrr⟩
                  · have oe := OE.out; omega
                  · clear hrr o9
                    rw [hpb] at PN2
                    rw [hep'] at EP2
                    have PN3 := Lib.hid PN2; have EP3 := Lib.hid EP2
                    clear hpb hep' PN2 EP2
                    go_wp2_with fail
                    refine PN3.out.mono ?_
                    rintro e w8 ⟨rfl, rfl⟩
                    go_wp2_with fail
                    go_quiet ((go_at_call 17; exact quiet_eq (EP3.out _ ((Ext.refl wr).drewN _))))
                    go_wp2_with fail
                    go_roundw
                    case rel => exact ⟨k + 1, hlt, h200, by go_num, by obtain ⟨F', s', a, b⟩ := HFA.out; exact ⟨F', s', a.ext ((Ext.refl wr).drewN _), b⟩⟩
                    case measure => simp [intOf]; omega
                  · have oe := OE.out; omega
                  · have oe := OE.out; omega
                  · have oe := OE.out; omega
            · have q1 : ((o : Int) == 1) = false := by rw [beq_eq_false_iff_ne]; omega
              have q2 : ((o : Int) == 2) = false := by rw [beq_eq_false_iff_ne]; omega
              have q4 : ((o : Int) == 4) = false := by rw [beq_eq_false_iff_ne]; omega
              have p2 : ((o : Int) != 2) = true := by rw [bne_iff_ne]; omega
              have p4 : ((o : Int) != 4) = true := by rw [bne_iff_ne]; omega
              have OE := Lib.hid oe
              clear he hp1 hp2 oe
              go_wp2_with fail
              (try rw [hW])
              clear hW c0 c1 c2
              refine PN.out.mono ?_
              rintro e w3 ⟨rfl, rfl⟩
              go_wp2_with fail
              refine ST.out.mono ?_
              rintro e w4 ⟨rfl, F4, i4, g4, f4⟩
              have hB4 := i4.inv.2.1.1
              have EPC := Lib.hid (ein_epoch w w4 F4 gx 3 (10 * k) _ i4 (by omega))
              have hep4 : (s.put d { s.wk d with call := .begun o (k : Int) }).ep = s.ep := rfl
              rw [hep4] at EPC hB4
              obtain ⟨was, hwas⟩ : ∃ was, Hid (s.ep = was) := ⟨_, rfl⟩
              rw [hwas.out] at EPC hB4
              have hwas1 : IntKind.i64.wrap ((was : Int) + 1) = (was : Int) + 1 := by rw [IntKind.wrap_i64]; omega
              obtain ⟨rb, hrb⟩ : ∃ rb, w4.heap.size = rb := ⟨_, rfl⟩
              have xr : Ext w4 (w4.alloc (.cells #[.bool false, .int .i64 0, .int .i64 0, .slice none 0 0] 36)) := (Ext.refl w4).alloc _
              have h0 := Lib.hid (show FreeIn w gx rb k 0 o was pn (s.wk d).held s.pw (k : Int) d false (w4.alloc (.cells #[.bool false, .int .i64 0, .int .i64 0, .slice none 0 0] 36)) from ⟨F4, _, none, 0, 0, 0, 0, (i4.ext xr).more (by omega), fun e => by rw [← hrb] at e; exact Nat.lt_irrefl _ (i4.lt _ e), by have := i4.out.size; omega, by rw [← hrb]; exact blk_new w4 _, fun d' hd' hne => by rw [put_other s _ hne]; exact HID.out d' hd', by omega, .inl ⟨rfl, by rw [← hwas.out, ← hpn.out]; exact alone_start, by unfold leftOf; rw [put_self]; show (if o = 1 then 3 else if o = 4 then 3 + 2 else 1) + 0 ≤ 5; exact free_left o⟩⟩)
              clear i4 g4 f4 xr hep4
              obtain ⟨hh, hhh⟩ : ∃ hh, Hid ((s.wk d).held = hh) := ⟨_, rfl⟩
              obtain ⟨pw0, hpw0⟩ : ∃ pw0, Hid (s.pw = pw0) := ⟨_, rfl⟩
              rw [hhh.out, hpw0.out] at h0
              go_wp2_with fail
              refine EPC.out.mono ?_
              rintro e w5 ⟨rfl, rfl⟩
              go_wp2_with fail
              (try rw [hrb])
              clear hrb
              go_loopw [10, 13] (fun fv nv wx => ∃ (j : Nat) (dn : Bool), fv = .int .i64 0 ∧ nv = .int .i64 (j : Int) ∧ FreeIn w gx rb k j o was pn hh pw0 (k : Int) d dn wx) (fun _ nv _ => 10 - (intOf nv).toNat)
              case atStart => exact ⟨0, false, rfl, rfl, h0.out⟩
              case round =>
                obtain ⟨j, dn, rfl, rfl, Fx, sx, Ax, mx, qx, er, nu, ix, nx, lx, kx, ox, jx, cx⟩ := hrel
                have r0 := blk_cell kx 0; have r1 := blk_cell kx 1; have r2 := blk_cell kx 2; have r3 := blk_cell kx 3
                have z0 := blk_frozen kx 0; have z1 := blk_frozen kx 1; have z2 := blk_frozen kx 2; have z3 := blk_frozen kx 3
                have IX := Lib.hid ix; have KX := Lib.hid kx; have OX := Lib.hid ox
                cases dn with
                | false =>
                  rcases cx with ⟨_, hal, hlf⟩ | ⟨hh9, _⟩
                  case inr => cases hh9
                  have hj7 : ¬ (7 : Int) < (j : Int) := by omega
                  have hbz := alone_busy hal
                  have hpos := left_pos (n := 3) hbz
                  have HLS := Lib.hid (left_step ix.inv.1 hd3 hbz)
                  have HAL := Lib.hid (alone_step ix.inv.1 hd3 hal)
                  have SPx := ein_step w wr Fx gx 3 (10 * k + j) d sx ix hd3 hbz (by omega)
                  have OTH := Lib.hid (fun w' (h : w' ≠ d) => step_other (n := 3) (s := sx) h)
                  obtain ⟨⟨s2, ⟨dn2, er2, nu2, th2⟩⟩, hp⟩ : ∃ p, eStep 3 sx d = p := ⟨_, rfl⟩
                  rw [hp] at SPx HLS HAL OTH
                  have SP := Lib.hid SPx
                  have HLF := Lib.hid hlf; have HPOS := Lib.hid hpos
                  clear ix kx ox hal hbz SPx hp hlf hpos r0 r1 r2 r3 z0 z1 z2 z3
                  have r0 := blk_cell KX.out 0
                  go_wp2_with fail
                  refine SP.out.mono ?_
                  rintro e w7 ⟨A7, m7, q7, F7, rfl, i7, g7, f7, t7⟩
                  have k7 := g7.blk KX.out nx
                  have c70 := blk_cell k7 0; have c71 := blk_cell k7 1; have c72 := blk_cell k7 2; have c73 := blk_cell k7 3
                  have z70 := blk_frozen k7 0; have z71 := blk_frozen k7 1; have z72 := blk_frozen k7 2; have z73 := blk_frozen k7 3
                  have n7 : ¬ F7 rb := fun e => (f7 _ e).elim nx (fun e => by have := blk_lt KX.out; omega)
                  have gp := put4_gb w7 rb (.bool dn2) (.int .i64 (er2 : Int)) (.int .i64 (nu2 : Int)) (.slice A7 m7 q7)
                  have NX := Lib.hid (show FreeIn w gx rb k (j + 1) o was pn hh pw0 (k : Int) d dn2 (put4 w7 rb (.bool dn2) (.int .i64 (er2 : Int)) (.int .i64 (nu2 : Int)) (.slice A7 m7 q7)) from ⟨F7, s2, A7, m7, q7, er2, nu2, i7.gb gp (fun i hi e => n7 (e ▸ hi)) (fun i e => by omega), n7, lx, row4 k7 _ _ _ _, fun d' hd' hne => by rw [show s2.wk d' = sx.wk d' from OTH.out d' hne]; exact OX.out d' hd' hne, by have := HLF.out; have := HPOS.out; omega, by
                    rcases HAL.out with ⟨hd2, hf2⟩ | ⟨hd2, ha2⟩
                    · have hd2' : dn2 = true := hd2
                      subst hd2'
                      exact .inr ⟨rfl, th2, hf2⟩
                    · have hd2' : dn2 = false := hd2
                      subst hd2'
                      rcases HLS.out with ⟨hh8, _⟩ | ⟨_, _, hl2, _⟩
                      · cases hh8
                      · have hl2' : leftOf 3 s2 d + 1 ≤ leftOf 3 sx d := hl2
                        exact .inl ⟨rfl, ha2, by have := HLF.out; omega⟩⟩)
                  clear i7 g7 f7 t7 k7 gp n7
                  go_wp2_with fail
                  go_roundw
                  case rel => exact ⟨j + 1, dn2, rfl, by go_num, NX.out⟩
                  case measure => simp [intOf]; omega
                | true =>
                  rcases cx with ⟨hh9, _⟩ | ⟨_, th9, hci, hfin⟩
                  case inl => cases hh9
                  have HFA := Lib.hid (show FreeAt w gx (k + 1) wr from ⟨Fx, sx, ix.more (by omega), fun d' hd' => by
                    by_cases hne : d' = d
                    · subst hne; exact hci
                    · exact ox d' hd' hne⟩)
                  have PN2 := ein_pinned w wr Fx gx 3 (10 * k + j) d sx ix hd3
                  have EP2 := fun (u : World) (x : Ext wr u) => ein_epoch w u Fx gx 3 (10 * k + j) sx (ix.ext x) (by omega)
                  clear ix kx ox hci
                  rcases hfin with ⟨o9, hpb, hep', -, hrr⟩ | ⟨o9, hpb, hep', -, hrr⟩ | ⟨o9, hpb, hep', -, hrr⟩ | ⟨o9, hpb, -, -, hrr⟩ | ⟨o9, hpb, hep', -, hrr⟩
                  · have oe := OE.out; omega
                  · have oe := OE.out; omega
                  · clear hrr o9
                    cases pn with
                    | true =>
                      rw [hpb] at PN2
                      rw [hep'] at EP2
                      have PN3 := Lib.hid PN2; have EP3 := Lib.hid EP2
                      clear hpb hep' PN2 EP2
                      go_wp2_with fail
                      refine PN3.out.mono ?_
                      rintro e w8 ⟨rfl, rfl⟩
                      go_wp2_with fail
                      go_quiet ((go_at_call 17; exact quiet_eq (EP3.out _ ((Ext.refl wr).drewN _))))
                      go_wp2_with fail
                      go_roundw
                      case rel => exact ⟨k + 1, hlt, h200, by go_num, by obtain ⟨F', s', a, b⟩ := HFA.out; exact ⟨F', s', a.ext ((Ext.refl wr).drewN _), b⟩⟩
                      case measure => simp [intOf]; omega
                    | false =>
                      rw [hpb] at PN2
                      rw [hep'] at EP2
                      have PN3 := Lib.hid PN2; have EP3 := Lib.hid EP2
                      clear hpb hep' PN2 EP2
                      go_wp2_with fail
                      refine PN3.out.mono ?_
                      rintro e w8 ⟨rfl, rfl⟩
                      go_wp2_with fail
                      go_quiet ((go_at_call 17; exact quiet_eq (EP3.out _ ((Ext.refl wr).drewN _))))
                      go_wp2_with fail
                      go_roundw
                      case rel => exact ⟨k + 1, hlt, h200, by go_num, by obtain ⟨F', s', a, b⟩ := HFA.out; exact ⟨F', s', a.ext ((Ext.refl wr).drewN _), b⟩⟩
                      case measure => simp [intOf]; omega
                  · have oe := OE.out; omega
                  · have oe := OE.out; omega
            · have q1 : ((o : Int) == 1) = false := by rw [beq_eq_false_iff_ne]; omega
              have q2 : ((o : Int) == 2) = false := by rw [beq_eq_false_iff_ne]; omega
              have q4 : ((o : Int) == 4) = true := by rw [beq_iff_eq]; omega
              have p2 : ((o : Int) != 2) = true := by rw [bne_iff_ne]; omega
              have p4 : ((o : Int) != 4) = false := by rw [bne_eq_false_iff_eq]; omega
              have OE := Lib.hid oe
              clear he hp1 hp2 oe
              go_wp2_with fail
              (try rw [hW])
              clear hW c0 c1 c2
              refine PN.out.mono ?_
              rintro e w3 ⟨rfl, rfl⟩
              go_wp2_with fail
              refine ST.out.mono ?_
              rintro e w4 ⟨rfl, F4, i4, g4, f4⟩
              have hB4 := i4.inv.2.1.1
              have EPC := Lib.hid (ein_epoch w w4 F4 gx 3 (10 * k) _ i4 (by omega))
              have hep4 : (s.put d { s.wk d with call := .begun o (k : Int) }).ep = s.ep := rfl
              rw [hep4] at EPC hB4
              obtain ⟨was, hwas⟩ : ∃ was, Hid (s.ep = was) := ⟨_, rfl⟩
              rw [hwas.out] at EPC hB4
              have hwas1 : IntKind.i64.wrap ((was : Int) + 1) = (was : Int) + 1 := by rw [IntKind.wrap_i64]; omega
              obtain ⟨rb, hrb⟩ : ∃ rb, w4.heap.size = rb := ⟨_, rfl⟩
              have xr : Ext w4 (w4.alloc (.cells #[.bool false, .int .i64 0, .int .i64 0, .slice none 0 0] 36)) := (Ext.refl w4).alloc _
              have h0 := Lib.hid (show FreeIn w gx rb k 0 o was pn (s.wk d).held s.pw (k : Int) d false (w4.alloc (.cells #[.bool false, .int .i64 0, .int .i64 0, .slice none 0 0] 36)) from ⟨F4, _, none, 0, 0, 0, 0, (i4.ext xr).more (by omega), fun e => by rw [← hrb] at e; exact Nat.lt_irrefl _ (i4.lt _ e), by have := i4.out.size; omega, by rw [← hrb]; exact blk_new w4 _, fun d' hd' hne => by rw [put_other s _ hne]; exact HID.out d' hd', by omega, .inl ⟨rfl, by rw [← hwas.out, ← hpn.out]; exact alone_start, by unfold leftOf; rw [put_self]; show (if o = 1 then 3 else if o = 4 then 3 + 2 else 1) + 0 ≤ 5; exact free_left o⟩⟩)
              clear i4 g4 f4 xr hep4
              obtain ⟨hh, hhh⟩ : ∃ hh, Hid ((s.wk d).held = hh) := ⟨_, rfl⟩
              obtain ⟨pw0, hpw0⟩ : ∃ pw0, Hid (s.pw = pw0) := ⟨_, rfl⟩
              rw [hhh.out, hpw0.out] at h0
              go_wp2_with fail
              refine EPC.out.mono ?_
              rintro e w5 ⟨rfl, rfl⟩
              go_wp2_with fail
              (try rw [hrb])
              clear hrb
              go_loopw [10, 13] (fun fv nv wx => ∃ (j : Nat) (dn : Bool), fv = .int .i64 0 ∧ nv = .int .i64 (j : Int) ∧ FreeIn w gx rb k j o was pn hh pw0 (k : Int) d dn wx) (fun _ nv _ => 10 - (intOf nv).toNat)
              case atStart => exact ⟨0, false, rfl, rfl, h0.out⟩
              case round =>
                obtain ⟨j, dn, rfl, rfl, Fx, sx, Ax, mx, qx, er, nu, ix, nx, lx, kx, ox, jx, cx⟩ := hrel
                have r0 := blk_cell kx 0; have r1 := blk_cell kx 1; have r2 := blk_cell kx 2; have r3 := blk_cell kx 3
                have z0 := blk_frozen kx 0; have z1 := blk_frozen kx 1; have z2 := blk_frozen kx 2; have z3 := blk_frozen kx 3
                have IX := Lib.hid ix; have KX := Lib.hid kx; have OX := Lib.hid ox
                cases dn with
                | false =>
                  rcases cx with ⟨_, hal, hlf⟩ | ⟨hh9, _⟩
                  case inr => cases hh9
                  have hj7 : ¬ (7 : Int) < (j : Int) := by omega
                  have hbz := alone_busy hal
                  have hpos := left_pos (n := 3) hbz
                  have HLS := Lib.hid (left_step ix.inv.1 hd3 hbz)
                  have HAL := Lib.hid (alone_step ix.inv.1 hd3 hal)
                  have SPx := ein_step w wr Fx gx 3 (10 * k + j) d sx ix hd3 hbz (by omega)
                  have OTH := Lib.hid (fun w' (h : w' ≠ d) => step_other (n := 3) (s := sx) h)
                  obtain ⟨⟨s2, ⟨dn2, er2, nu2, th2⟩⟩, hp⟩ : ∃ p, eStep 3 sx d = p := ⟨_, rfl⟩
                  rw [hp] at SPx HLS HAL OTH
                  have SP := Lib.hid SPx
                  have HLF := Lib.hid hlf; have HPOS := Lib.hid hpos
                  clear ix kx ox hal hbz SPx hp hlf hpos r0 r1 r2 r3 z0 z1 z2 z3
                  have r0 := blk_cell KX.out 0
                  go_wp2_with fail
                  refine SP.out.mono ?_
                  rintro e w7 ⟨A7, m7, q7, F7, rfl, i7, g7, f7, t7⟩
                  have k7 := g7.blk KX.out nx
                  have c70 := blk_cell k7 0; have c71 := blk_cell k7 1; have c72 := blk_cell k7 2; have c73 := blk_cell k7 3
                  have z70 := blk_frozen k7 0; have z71 := blk_frozen k7 1; have z72 := blk_frozen k7 2; have z73 := blk_frozen k7 3
                  have n7 : ¬ F7 rb := fun e => (f7 _ e).elim nx (fun e => by have := blk_lt KX.out; omega)
                  have gp := put4_gb w7 rb (.bool dn2) (.int .i64 (er2 : Int)) (.int .i64 (nu2 : Int)) (.slice A7 m7 q7)
                  have NX := Lib.hid (show FreeIn w gx rb k (j + 1) o was pn hh pw0 (k : Int) d dn2 (put4 w7 rb (.bool dn2) (.int .i64 (er2 : Int)) (.int .i64 (nu2 : Int)) (.slice A7 m7 q7)) from ⟨F7, s2, A7, m7, q7, er2, nu2, i7.gb gp (fun i hi e => n7 (e ▸ hi)) (fun i e => by omega), n7, lx, row4 k7 _ _ _ _, fun d' hd' hne => by rw [show s2.wk d' = sx.wk d' from OTH.out d' hne]; exact OX.out d' hd' hne, by have := HLF.out; have := HPOS.out; omega, by
                    rcases HAL.out with ⟨hd2, hf2⟩ | ⟨hd2, ha2⟩
                    · have hd2' : dn2 = true := hd2
                      subst hd2'
                      exact .inr ⟨rfl, th2, hf2⟩
                    · have hd2' : dn2 = false := hd2
                      subst hd2'
                      rcases HLS.out with ⟨hh8, _⟩ | ⟨_, _, hl2, _⟩
                      · cases hh8
                      · have hl2' : leftOf 3 s2 d + 1 ≤ leftOf 3 sx d := hl2
                        exact .inl ⟨rfl, ha2, by have := HLF.out; omega⟩⟩)
                  clear i7 g7 f7 t7 k7 gp n7
                  go_wp2_with fail
                  go_roundw
                  case rel => exact ⟨j + 1, dn2, rfl, by go_num, NX.out⟩
                  case measure => simp [intOf]; omega
                | true =>
                  rcases cx with ⟨hh9, _⟩ | ⟨_, th9, hci, hfin⟩
                  case inl => cases hh9
                  have HFA := Lib.hid (show FreeAt w gx (k + 1) wr from ⟨Fx, sx, ix.more (by omega), fun d' hd' => by
                    by_cases hne : d' = d
                    · subst hne; exact hci
                    · exact ox d' hd' hne⟩)
                  have PN2 := ein_pinned w wr Fx gx 3 (10 * k + j) d sx ix hd3
                  have EP2 := fun (u : World) (x : Ext wr u) => ein_epoch w u Fx gx 3 (10 * k + j) sx (ix.ext x) (by omega)
                  clear ix kx ox hci
                  rcases hfin with ⟨o9, hpb, hep', -, hrr⟩ | ⟨o9, hpb, hep', -, hrr⟩ | ⟨o9, hpb, hep', -, hrr⟩ | ⟨o9, hpb, -, -, hrr⟩ | ⟨o9, hpb, hep', -, hrr⟩
                  · have oe := OE.out; omega
                  · have oe := OE.out; omega
                  · have oe := OE.out; omega
                  · clear o9
                    rcases hrr with ⟨hep', hrr⟩ | ⟨hep', hrr, -⟩
                    · injection hrr with _ hrr _ _
                      subst hrr
                      have hep2 : ((sx.ep : Int)) = (was : Int) + 1 := by omega
                      cases pn with
                      | true =>
                        rw [hpb] at PN2
                        rw [hep'] at EP2; simp only [Int.natCast_add, Int.natCast_one] at EP2
                        have PN3 := Lib.hid PN2; have EP3 := Lib.hid EP2
                        clear hpb hep' hep2 PN2 EP2
                        go_wp2_with fail
                        refine PN3.out.mono ?_
                        rintro e w8 ⟨rfl, rfl⟩
                        go_wp2_with fail
                        go_quiet ((go_at_call 17; exact quiet_eq (EP3.out _ ((Ext.refl wr).drewN _))))
                        go_wp2_with fail
                        go_roundw
                        case rel => exact ⟨k + 1, hlt, h200, by go_num, by obtain ⟨F', s', a, b⟩ := HFA.out; exact ⟨F', s', a.ext ((Ext.refl wr).drewN _), b⟩⟩
                        case measure => simp [intOf]; omega
                      | false =>
                        rw [hpb] at PN2
                        rw [hep'] at EP2; simp only [Int.natCast_add, Int.natCast_one] at EP2
                        have PN3 := Lib.hid PN2; have EP3 := Lib.hid EP2
                        clear hpb hep' hep2 PN2 EP2
                        go_wp2_with fail
                        refine PN3.out.mono ?_
                        rintro e w8 ⟨rfl, rfl⟩
                        go_wp2_with fail
                        go_quiet ((go_at_call 17; exact quiet_eq (EP3.out _ ((Ext.refl wr).drewN _))))
                        go_wp2_with fail
                        go_roundw
                        case rel => exact ⟨k + 1, hlt, h200, by go_num, by obtain ⟨F', s', a, b⟩ := HFA.out; exact ⟨F', s', a.ext ((Ext.refl wr).drewN _), b⟩⟩
                        case measure => simp [intOf]; omega
                    · injection hrr with _ hrr _ _
                      subst hrr
                      have hww : ((was : Int) == (was : Int) + 1) = false := by rw [beq_eq_false_iff_ne]; omega
                      cases pn with
                      | true =>
                        rw [hpb] at PN2
                        rw [hep'] at EP2
                        have PN3 := Lib.hid PN2; have EP3 := Lib.hid EP2
                        clear hpb hep' PN2 EP2
                        go_wp2_with fail
                        refine PN3.out.mono ?_
                        rintro e w8 ⟨rfl, rfl⟩
                        go_wp2_with fail
                        go_quiet ((go_at_call 17; exact quiet_eq (EP3.out _ ((Ext.refl wr).drewN _))))
                        go_wp2_with fail
                        go_roundw
                        case rel => exact ⟨k + 1, hlt, h200, by go_num, by obtain ⟨F', s', a, b⟩ := HFA.out; exact ⟨F', s', a.ext ((Ext.refl wr).drewN _), b⟩⟩
                        case measure => simp [intOf]; omega
                      | false =>
                        rw [hpb] at PN2
                        rw [hep'] at EP2
                        have PN3 := Lib.hid PN2; have EP3 := Lib.hid EP2
                        clear hpb hep' PN2 EP2
                        go_wp2_with fail
                        refine PN3.out.mono ?_
                        rintro e w8 ⟨rfl, rfl⟩
                        go_wp2_with fail
                        go_quiet ((go_at_call 17; exact quiet_eq (EP3.out _ ((Ext.refl wr).drewN _))))
                        go_wp2_with fail
                        go_roundw
                        case rel => exact ⟨k + 1, hlt, h200, by go_num, by obtain ⟨F', s', a, b⟩ := HFA.out; exact ⟨F', s', a.ext ((Ext.refl wr).drewN _), b⟩⟩
                        case measure => simp [intOf]; omega
                  · have oe := OE.out; omega
            · have q1 : ((o : Int) == 1) = false := by rw [beq_eq_false_iff_ne]; omega
              have q2 : ((o : Int) == 2) = false := by rw [beq_eq_false_iff_ne]; omega
              have q4 : ((o : Int) == 4) = false := by rw [beq_eq_false_iff_ne]; omega
              have p2 : ((o : Int) != 2) = true := by rw [bne_iff_ne]; omega
              have p4 : ((o : Int) != 4) = true := by rw [bne_iff_ne]; omega
              have OE := Lib.hid oe
              clear he hp1 hp2 oe
              go_wp2_with fail
              (try rw [hW])
              clear hW c0 c1 c2
              refine PN.out.mono ?_
              rintro e w3 ⟨rfl, rfl⟩
              go_wp2_with fail
              refine ST.out.mono ?_
              rintro e w4 ⟨rfl, F4, i4, g4, f4⟩
              have hB4 := i4.inv.2.1.1
              have EPC := Lib.hid (ein_epoch w w4 F4 gx 3 (10 * k) _ i4 (by omega))
              have hep4 : (s.put d { s.wk d with call := .begun o (k : Int) }).ep = s.ep := rfl
              rw [hep4] at EPC hB4
              obtain ⟨was, hwas⟩ : ∃ was, Hid (s.ep = was) := ⟨_, rfl⟩
              rw [hwas.out] at EPC hB4
              have hwas1 : IntKind.i64.wrap ((was : Int) + 1) = (was : Int) + 1 := by rw [IntKind.wrap_i64]; omega
              obtain ⟨rb, hrb⟩ : ∃ rb, w4.heap.size = rb := ⟨_, rfl⟩
              have xr : Ext w4 (w4.alloc (.cells #[.bool false, .int .i64 0, .int .i64 0, .slice none 0 0] 36)) := (Ext.refl w4).alloc _
              have h0 := Lib.hid (show FreeIn w gx rb k 0 o was pn (s.wk d).held s.pw (k : Int) d false (w4.alloc (.cells #[.bool false, .int .i64 0, .int .i64 0, .slice none 0 0] 36)) from ⟨F4, _, none, 0, 0, 0, 0, (i4.ext xr).more (by omega), fun e => by rw [← hrb] at e; exact Nat.lt_irrefl _ (i4.lt _ e), by have := i4.out.size; omega, by rw [← hrb]; exact blk_new w4 _, fun d' hd' hne => by rw [put_other s _ hne]; exact HID.out d' hd', by omega, .inl ⟨rfl, by rw [← hwas.out, ← hpn.out]; exact alone_start, by unfold leftOf; rw [put_self]; show (if o = 1 then 3 else if o = 4 then 3 + 2 else 1) + 0 ≤ 5; exact free_left o⟩⟩)
              clear i4 g4 f4 xr hep4
              obtain ⟨hh, hhh⟩ : ∃ hh, Hid ((s.wk d).held = hh) := ⟨_, rfl⟩
              obtain ⟨pw0, hpw0⟩ : ∃ pw0, Hid (s.pw = pw0) := ⟨_, rfl⟩
              rw [hhh.out, hpw0.out] at h0
              go_wp2_with fail
              refine EPC.out.mono ?_
              rintro e w5 ⟨rfl, rfl⟩
              go_wp2_with fail
              (try rw [hrb])
              clear hrb
              go_loopw [10, 13] (fun fv nv wx => ∃ (j : Nat) (dn : Bool), fv = .int .i64 0 ∧ nv = .int .i64 (j : Int) ∧ FreeIn w gx rb k j o was pn hh pw0 (k : Int) d dn wx) (fun _ nv _ => 10 - (intOf nv).toNat)
              case atStart => exact ⟨0, false, rfl, rfl, h0.out⟩
              case round =>
                obtain ⟨j, dn, rfl, rfl, Fx, sx, Ax, mx, qx, er, nu, ix, nx, lx, kx, ox, jx, cx⟩ := hrel
                have r0 := blk_cell kx 0; have r1 := blk_cell kx 1; have r2 := blk_cell kx 2; have r3 := blk_cell kx 3
                have z0 := blk_frozen kx 0; have z1 := blk_frozen kx 1; have z2 := blk_frozen kx 2; have z3 := blk_frozen kx 3
                have IX := Lib.hid ix; have KX := Lib.hid kx; have OX := Lib.hid ox
                cases dn with
                | false =>
                  rcases cx with ⟨_, hal, hlf⟩ | ⟨hh9, _⟩
                  case inr => cases hh9
                  have hj7 : ¬ (7 : Int) < (j : Int) := by omega
                  have hbz := alone_busy hal
                  have hpos := left_pos (n := 3) hbz
                  have HLS := Lib.hid (left_step ix.inv.1 hd3 hbz)
                  have HAL := Lib.hid (alone_step ix.inv.1 hd3 hal)
                  have SPx := ein_step w wr Fx gx 3 (10 * k + j) d sx ix hd3 hbz (by omega)
                  have OTH := Lib.hid (fun w' (h : w' ≠ d) => step_other (n := 3) (s := sx) h)
                  obtain ⟨⟨s2, ⟨dn2, er2, nu2, th2⟩⟩, hp⟩ : ∃ p, eStep 3 sx d = p := ⟨_, rfl⟩
                  rw [hp] at SPx HLS HAL OTH
                  have SP := Lib.hid SPx
                  have HLF := Lib.hid hlf; have HPOS := Lib.hid hpos
                  clear ix kx ox hal hbz SPx hp hlf hpos r0 r1 r2 r3 z0 z1 z2 z3
                  have r0 := blk_cell KX.out 0
                  go_wp2_with fail
                  refine SP.out.mono ?_
                  rintro e w7 ⟨A7, m7, q7, F7, rfl, i7, g7, f7, t7⟩
                  have k7 := g7.blk KX.out nx
                  have c70 := blk_cell k7 0; have c71 := blk_cell k7 1; have c72 := blk_cell k7 2; have c73 := blk_cell k7 3
                  have z70 := blk_frozen k7 0; have z71 := blk_frozen k7 1; have z72 := blk_frozen k7 2; have z73 := blk_frozen k7 3
                  have n7 : ¬ F7 rb := fun e => (f7 _ e).elim nx (fun e => by have := blk_lt KX.out; omega)
                  have gp := put4_gb w7 rb (.bool dn2) (.int .i64 (er2 : Int)) (.int .i64 (nu2 : Int)) (.slice A7 m7 q7)
                  have NX := Lib.hid (show FreeIn w gx rb k (j + 1) o was pn hh pw0 (k : Int) d dn2 (put4 w7 rb (.bool dn2) (.int .i64 (er2 : Int)) (.int .i64 (nu2 : Int)) (.slice A7 m7 q7)) from ⟨F7, s2, A7, m7, q7, er2, nu2, i7.gb gp (fun i hi e => n7 (e ▸ hi)) (fun i e => by omega), n7, lx, row4 k7 _ _ _ _, fun d' hd' hne => by rw [show s2.wk d' = sx.wk d' from OTH.out d' hne]; exact OX.out d' hd' hne, by have := HLF.out; have := HPOS.out; omega, by
                    rcases HAL.out with ⟨hd2, hf2⟩ | ⟨hd2, ha2⟩
                    · have hd2' : dn2 = true := hd2
                      subst hd2'
                      exact .inr ⟨rfl, th2, hf2⟩
                    · have hd2' : dn2 = false := hd2
                      subst hd2'
                      rcases HLS.out with ⟨hh8, _⟩ | ⟨_, _, hl2, _⟩
                      · cases hh8
                      · have hl2' : leftOf 3 s2 d + 1 ≤ leftOf 3 sx d := hl2
                        exact .inl ⟨rfl, ha2, by have := HLF.out; omega⟩⟩)
                  clear i7 g7 f7 t7 k7 gp n7
                  go_wp2_with fail
                  go_roundw
                  case rel => exact ⟨j + 1, dn2, rfl, by go_num, NX.out⟩
                  case measure => simp [intOf]; omega
                | true =>
                  rcases cx with ⟨hh9, _⟩ | ⟨_, th9, hci, hfin⟩
                  case inl => cases hh9
                  have HFA := Lib.hid (show FreeAt w gx (k + 1) wr from ⟨Fx, sx, ix.more (by omega), fun d' hd' => by
                    by_cases hne : d' = d
                    · subst hne; exact hci
                    · exact ox d' hd' hne⟩)
                  have PN2 := ein_pinned w wr Fx gx 3 (10 * k + j) d sx ix hd3
                  have EP2 := fun (u : World) (x : Ext wr u) => ein_epoch w u Fx gx 3 (10 * k + j) sx (ix.ext x) (by omega)
                  clear ix kx ox hci
                  rcases hfin with ⟨o9, hpb, hep', -, hrr⟩ | ⟨o9, hpb, hep', -, hrr⟩ | ⟨o9, hpb, hep', -, hrr⟩ | ⟨o9, hpb, -, -, hrr⟩ | ⟨o9, hpb, hep', -, hrr⟩
                  · have oe := OE.out; omega
                  · have oe := OE.out; omega
                  · have oe := OE.out; omega
                  · have oe := OE.out; omega
                  · clear hrr o9
                    cases pn with
                    | true =>
                      rw [hpb] at PN2
                      rw [hep'] at EP2
                      have PN3 := Lib.hid PN2; have EP3 := Lib.hid EP2
                      clear hpb hep' PN2 EP2
                      go_wp2_with fail
                      refine PN3.out.mono ?_
                      rintro e w8 ⟨rfl, rfl⟩
                      go_wp2_with fail
                      go_quiet ((go_at_call 17; exact quiet_eq (EP3.out _ ((Ext.refl wr).drewN _))))
                      go_wp2_with fail
                      go_roundw
                      case rel => exact ⟨k + 1, hlt, h200, by go_num, by obtain ⟨F', s', a, b⟩ := HFA.out; exact ⟨F', s', a.ext ((Ext.refl wr).drewN _), b⟩⟩
                      case measure => simp [intOf]; omega
                    | false =>
                      rw [hpb] at PN2
                      rw [hep'] at EP2
                      have PN3 := Lib.hid PN2; have EP3 := Lib.hid EP2
                      clear hpb hep' PN2 EP2
                      go_wp2_with fail
                      refine PN3.out.mono ?_
                      rintro e w8 ⟨rfl, rfl⟩
                      go_wp2_with fail
                      go_quiet ((go_at_call 17; exact quiet_eq (EP3.out _ ((Ext.refl wr).drewN _))))
                      go_wp2_with fail
                      go_roundw
                      case rel => exact ⟨k + 1, hlt, h200, by go_num, by obtain ⟨F', s', a, b⟩ := HFA.out; exact ⟨F', s', a.ext ((Ext.refl wr).drewN _), b⟩⟩
                      case measure => simp [intOf]; omega
        · go_wp2_with fail
          go_meet
          exact HI.out.out.alloc _
      · have HX := Lib.hid hI.out
        clear hI
        go_wp2_with fail
        go_meet
        exact HX.out
  case rest =>
    go_wp2_with fail
    go_ret
    exact retTrue hcut
end Go.Proofs.Ytlgggeeflomelaa
