/- ConnLedger answers true. -/
import Derived.Test.YthkdjjfnmlemdaaCnW
import Derived.BigQuiet
namespace Go.Proofs.Ythkdjjfnmlemdaa
open Go.RowKit

set_option maxHeartbeats 16000000 in
set_option maxRecDepth 100000 in
theorem connLedger_walk (w : World) (A : Option Addr) (n c : Nat) (xs : List Nat) (hl : xs.length = n) (hb : ∀ x ∈ xs, x < 256) (hr : Rd w A (vals .u8 xs)) (hnc : n ≤ c) (hz : n ≤ 140737488351232) :
    Calls Try.prog 12 #[.slice A n c] w (RetTrue w) := by
  have Hl := Lib.hid hl; have Hb := Lib.hid hb; have Hr := Lib.hid hr; clear hl hb hr
  go_enter Try.func12, Try.ntmps12
  go_wp2_with fail
  refine (cawake _).mono ?_
  rintro e w1 ⟨rfl, x1⟩
  go_wp2_with fail
  refine (cin_new w1).mono ?_
  rintro e w2 ⟨gc, r, rfl, h2, x2⟩
  have H2 := Lib.hid h2; have X2 := Lib.hid x2; have X1 := Lib.hid x1
  clear h2 x1 x2
  go_wp2_with fail
  go_loopw [4, 5, 25] (fun hv sv i wr => ∃ (k ser hn hc : Nat) (HA : Option Addr) (hs : List Nat) (s : CSt), k ≤ n ∧ k ≤ 80 ∧ ser ≤ k ∧ i = .int .i64 (k : Int) ∧ sv = .int .i64 (ser : Int) ∧ hv = .slice HA hn hc ∧ hs.length = hn ∧ hn ≤ k ∧ wr.ownsRow w1.heap.size 2 1 (.slice HA hn hc) hn (vals .i64 hs) ∧
      hs.Pairwise (· < ·) ∧ (∀ m ∈ hs, 1 ≤ m ∧ m ≤ 2 * ser + 1) ∧ s.led = ledOf hs ∧ Idle s ∧ CInv s ∧ s.wr.length ≤ 38 * k ∧ ConnIn wr w1.heap.size gc r s (Value.slice HA hn hc).ownBlock.toList ∧ Ext w1 wr) (fun _ _ i _ => n - (intOf i).toNat)
  case atStart => exact ⟨0, 0, 0, 0, none, [], cInit, Nat.zero_le _, Nat.zero_le _, Nat.zero_le _, rfl, rfl, rfl, rfl, Nat.zero_le _, World.ownsRow_nil _ _ _ _, List.Pairwise.nil, (fun m h => by cases h), rfl, ⟨rfl, rfl, rfl, rfl, rfl, rfl, rfl⟩, cinv_init, Nat.le_refl _, H2.out.more (Ext.refl _) (fun b hb => by cases hb), X2.out⟩
  case round =>
    obtain ⟨k, ser, hn, hc, HA, hs, s, hk, hk80, hser, rfl, rfl, rfl, hhl, hhn, how, hpw, hin, hled, hid, hci, hwr, hcn, hx⟩ := hrel
    have hwz : w1.heap.size ≤ wr.heap.size := hx.size
    have HHL := Lib.hid hhl; have HOW := Lib.hid how; have HPW := Lib.hid hpw; have HIN := Lib.hid hin; have HLED := Lib.hid hled; have HID := Lib.hid hid; have HCI := Lib.hid hci; have HWR := Lib.hid hwr; have HCN := Lib.hid hcn; have HX := Lib.hid hx
    clear hhl how hpw hin hled hid hci hwr hcn hx
    by_cases hlt : k < n
    · by_cases h80 : k = 80
      · subst h80
        obtain ⟨v, hv⟩ : ∃ v, xs[80]? = some v := ⟨_, List.getElem?_eq_getElem (by rw [Hl.out]; exact hlt)⟩
        obtain ⟨b, off, hA, hbl, d0⟩ := (Hr.out.ext (X1.out.trans HX.out)).at_ hv
        subst hA
        clear hv
        go_wp2_with fail
        refine (cin_take wr w1.heap.size gc r s _ HCN.out).mono ?_
        rintro e w3 ⟨WA, wc, rfl, h3, g3, -, -⟩
        have OW3 := Lib.hid (g3.own HOW.out (fun b e => by rw [e]; simp))
        have E3 := g3.out HX.out
        have hgl := h3.gc_lt
        have HU := cin_hangup w3 w1.heap.size gc r _ _ h3 (by show s.led.length ≤ _; rw [HLED.out, ledOf_len, HHL.out]; omega) (by show ∀ t ∈ s.led, _; rw [HLED.out]; exact fun t ht => by rw [(ledOf_keys hs t ht).1]; omega)
        dsimp only at HU
        rw [HLED.out, ledOf_len, HHL.out] at HU
        have E3h := Lib.hid E3; have HUh := Lib.hid HU
        clear h3 g3 E3 HU
        go_wp2_with fail
        refine HUh.out.mono ?_
        rintro e w4 ⟨LA, lc, lks, rfl, h4, hN, g4⟩
        have OW4 := Lib.hid (g4.own OW3.out (fun b e => by rw [e]; simp))
        have E4 := Lib.hid (g4.out E3h.out)
        have h34 : w3.heap.size ≤ w4.heap.size := g4.size
        have OP := Lib.hid (show Calls Try.prog 54 #[.pointer (some ⟨gc, 0, none⟩)] w4 fun e w' => e = .returned (.bool false) ∧ w4 = w' from cin_open w4 w1.heap.size gc r _ _ h4)
        have TK := Lib.hid (show Calls Try.prog 53 #[.pointer (some ⟨gc, 0, none⟩)] w4 fun e w' => ∃ WA wc, e = .returned (.slice WA 0 wc) ∧ (∃ s9 : CSt, CSt.led s9 = ledOf hs ∧ ConnIn w' w1.heap.size gc r s9 (Value.slice HA hn hc).ownBlock.toList) ∧ Gone w4 w' w1.heap.size (Value.slice HA hn hc).ownBlock.toList ∧ GB w4 w' (· = gc) from
          (cin_take w4 w1.heap.size gc r _ _ h4).mono fun e w' ⟨WA, wc, k1, k2, k3, _, k5⟩ => ⟨WA, wc, k1, ⟨_, rfl, k2⟩, k3, k5⟩)
        have HN := Lib.hid hN
        clear h4 g4 hN
        go_wp2_with fail
        refine OP.out.mono ?_
        rintro e w5 ⟨rfl, rfl⟩
        go_wp2_with fail
        refine TK.out.mono ?_
        rintro e w6 ⟨WB, wd, rfl, ⟨s6, hs6, h6⟩, g6, b6⟩
        have HN6 := Lib.hid (HN.out.gb b6 (fun b e => by rw [e]; exact hgl))
        have OW6 := Lib.hid (g6.own OW4.out (fun b e => by rw [e]; simp))
        have E6 := Lib.hid (g6.out E4.out)
        have LD := cin_ledger w6 w1.heap.size gc r s6 _ h6 (by rw [hs6, ledOf_len, HHL.out]; omega) (by rw [hs6]; exact fun t ht => by rw [(ledOf_keys hs t ht).1]; omega)
        rw [hs6] at LD
        unfold LedR at LD
        rw [ledOf_len, HHL.out] at LD
        have LDh := Lib.hid LD
        clear hs6 h6 g6 b6 LD
        go_wp2_with fail
        refine LDh.out.mono ?_
        rintro e w7 ⟨LB, ld, lks2, rfl, hN7, x7⟩
        have C7 := Lib.hid (toksSame_true w7 LB LA hn ld lc (ledOf hs) lks2 lks (by rw [ledOf_len, HHL.out]) (by omega) (fun t ht => ⟨by rw [(ledOf_keys hs t ht).1]; omega, (ledOf_keys hs t ht).2⟩) hN7.rd (HN6.out.rd.ext x7))
        have X7 := Lib.hid x7
        clear hN7 x7
        go_wp2_with fail
        refine C7.out.mono ?_
        rintro e w8 ⟨rfl, q8, rfl⟩
        have HN8 := Lib.hid (HN6.out.rd.ext (X7.out.drewN q8))
        have OW8 := Lib.hid (own_ext OW6.out (X7.out.drewN q8))
        have E8 := Lib.hid (E6.out.trans (X7.out.drewN q8))
        generalize w7.drewN q8 = w9 at HN8 OW8 E8 ⊢
        go_wp2_with fail
        go_loopw [164] (fun i wx => ∃ q : Nat, q ≤ hn ∧ i = .int .i64 (q : Int) ∧ Ext w9 wx) (fun i _ => hn - (intOf i).toNat)
        case atStart => exact ⟨0, Nat.zero_le _, rfl, Ext.refl _⟩
        case round =>
          obtain ⟨q, hq, rfl, hxx⟩ := hrel
          by_cases hqn : q < hn
          · obtain ⟨m, hm⟩ : ∃ m, hs[q]? = some m := ⟨_, List.getElem?_eq_getElem (by rw [HHL.out]; exact hqn)⟩
            obtain ⟨b9, o9, K9, kc9, hLA, -, a0, a1, a2, -, hk9⟩ := (HN8.out.ext hxx).at_ (i := q) (t := ⟨1, [97 + m % 2], (m : Int)⟩) (by unfold ledOf; rw [List.getElem?_map, hm]; rfl)
            dsimp only at a0 a1 a2 hk9
            subst hLA
            obtain ⟨hb9, hHA9, -, -⟩ := own_some_s OW8.out (by have := own_cap OW8.out; omega)
            subst hHA9
            have dm := ext_cell hxx ((OW8.out.cellAt q (by omega)).trans (vals_get hm))
            obtain ⟨kb9, ko9, hK9, hkk⟩ := hk9 (by simp [vals])
            have dk := hkk 0 (.int .u8 ((97 + m % 2 : Nat) : Int)) rfl
            subst hK9
            have HXX := Lib.hid hxx; have HM := Lib.hid hm
            clear hk9 hkk hm hxx
            rw [Nat.add_zero, show ((97 + m % 2 : Nat) : Int) = 97 + (m : Int) % 2 by omega] at dk
            have hmb := HIN.out m (List.mem_of_getElem? HM.out)
            have hmi : (m : Int) % 2 < 2 := by omega
            have hmj : 0 ≤ (m : Int) % 2 := by omega
            go_upto_region 46 with fail
            obtain ⟨X, hX⟩ : ∃ X, wr.alloc (.cells #[.int .i64 1, .slice (some ⟨kb9, ko9, none⟩) 1 kc9, .int .i64 (m : Int)] 53) = X := ⟨_, rfl⟩
            have xX : Ext wr X := by rw [← hX]; exact (Ext.refl wr).alloc _
            have KX := Lib.hid (show X.heap[wr.heap.size]? = some (.cells #[.int .i64 1, .slice (some ⟨kb9, ko9, none⟩) 1 kc9, .int .i64 (m : Int)] 53 (0, 0)) by rw [← hX]; exact blk_new wr _)
            first | rw [hX] | rw [show ([97 + m % 2] : List Nat).length = 1 from rfl, hX]
            clear hX a0 a1 a2
            have e0 := blk_cell KX.out 0; have e1 := blk_cell KX.out 1; have e2 := blk_cell KX.out 2
            have dmx := ext_cell xX dm; have dkx := ext_cell xX dk
            have XX := Lib.hid xX
            clear dm dk xX
            go_quiet (fail)
            go_wp2_with fail
            go_roundw
            case rel => exact ⟨q + 1, hqn, by go_num, HXX.out.trans (XX.out.drewN _)⟩
            case measure => simp [intOf]; omega
          · obtain rfl : q = hn := by omega
            go_wp2_with fail
            go_ret
            exact retTrue (X1.out.trans (E8.out.trans hxx))
      · obtain ⟨v, hv⟩ : ∃ v, xs[k]? = some v := ⟨_, List.getElem?_eq_getElem (by rw [Hl.out]; exact hlt)⟩
        obtain ⟨b, off, hA, hbl, d0⟩ := (Hr.out.ext (X1.out.trans HX.out)).at_ hv
        have hvb := Hb.out v (List.mem_of_getElem? hv)
        subst hA
        clear hv
        have hk79 : k < 80 := by omega
        clear h80
        go_upto_region 13 with fail
        obtain ⟨kb, Hkb⟩ : ∃ kb : Nat, Hid (97 + v % 2 = kb) := ⟨_, rfl⟩
        have ekb : (97 : Int) + (v : Int) % 2 = (kb : Int) := by have := Hkb.out; omega
        have hkb : kb < 256 := by have := Hkb.out; omega
        rw [ekb]
        clear ekb d0
        have RK := Lib.hid ((rd_new wr [.int .u8 (kb : Int)] 5))
        obtain ⟨W0, hW0⟩ : ∃ W0, wr.alloc (.cells #[.int .u8 (kb : Int)] 5) = W0 := ⟨_, rfl⟩
        rw [show (wr.alloc (.cells ([Value.int .u8 (kb : Int)]).toArray 5)) = W0 from hW0] at RK
        have x0 : Ext wr W0 := by rw [← hW0]; exact (Ext.refl wr).alloc _
        have hs0 : wr.heap.size + 1 = W0.heap.size := by rw [← hW0]; simp
        rw [hW0]
        clear hW0
        by_cases h8 : v % 8 < 4
        · have i8 : (v : Int) % 8 < 4 := by omega
          have i8d : decide ((v : Int) % 8 < 4) = true := decide_eq_true i8
          by_cases h16 : v % 16 = 3
          · have i16 : ((v : Int) % 16 == 3) = true := by simp; omega
            have H16 := Lib.hid h16
            clear h16
            go_upto_region 22 with fail
            obtain ⟨bx, hbx⟩ : ∃ bx, wr.heap.size + 1 = bx := ⟨_, rfl⟩
            obtain ⟨br, hbr⟩ : ∃ br, bx + 1 = br := ⟨_, rfl⟩
            obtain ⟨W1, hW1⟩ : ∃ W1, (W0.alloc (.cells #[.int .u8 2, .int .i64 1, .slice (some ⟨wr.heap.size, 0, none⟩) 1 1, .int .i64 0] 63)).alloc (.cells #[.int .i64 9, .bool false, .int .i64 0, .int .i64 0, .int .i64 0, .int .i64 0] 74) = W1 := ⟨_, rfl⟩
            have KX := Lib.hid (show W1.heap[bx]? = some (.cells #[.int .u8 2, .int .i64 1, .slice (some ⟨wr.heap.size, 0, none⟩) 1 1, .int .i64 0] 63 (0, 0)) by rw [← hW1]; exact blk_past (blk_newk W0 _ (by omega)) _)
            have KR := Lib.hid (show W1.heap[br]? = some (.cells #[.int .i64 9, .bool false, .int .i64 0, .int .i64 0, .int .i64 0, .int .i64 0] 74 (0, 0)) by rw [← hW1]; exact blk_newk _ _ (by simp; omega))
            have x01 : Ext W0 W1 := by rw [← hW1]; exact ((Ext.refl W0).alloc _).alloc _
            rw [hbx, hbr, hW1]
            clear hW1
            have XW := Lib.hid (x0.trans x01)
            have RK1 := Lib.hid (RK.out.ext x01)
            clear x0 x01
            obtain ⟨F, HF⟩ : ∃ F, Hid (F = (Value.slice HA hn hc).ownBlock.toList ++ [bx, br]) := ⟨_, rfl⟩
            have hbxF : bx ∈ F := by rw [HF.out]; simp
            have hbrF : br ∈ F := by rw [HF.out]; simp
            have hhF : ∀ b, (Value.slice HA hn hc).ownBlock = some b → b ∈ F := fun b e => by rw [HF.out, e]; simp
            have hC1 : ConnIn W1 w1.heap.size gc r s F := HCN.out.more XW.out (fun b hb => by
              rw [HF.out] at hb
              rcases List.mem_append.1 hb with hb | hb
              · exact .inl hb
              · simp at hb
                have := blk_lt KX.out; have := blk_lt KR.out
                exact .inr (by omega))
            obtain ⟨cl, Hcl⟩ : ∃ cl : CCall, Hid (⟨2, 1, [kb], 0⟩ = cl) := ⟨_, rfl⟩
            have hno : NormC cl.op cl.pol cl.key cl.num := by rw [← Hcl.out]; exact norm_acq hkb
            obtain ⟨FL, HFL⟩ : ∃ FL, Hid (frameOf cl = FL) := ⟨_, rfl⟩
            obtain ⟨fn, Hfn⟩ : ∃ fn, Hid (FL.length = fn) := ⟨_, rfl⟩
            have RQ := Lib.hid (crequest_norm cl hno 1 (by rw [← Hcl.out]; rfl) (some ⟨wr.heap.size, 0, none⟩) 1 W1 (by rw [← Hcl.out]; exact RK1.out))
            rw [HFL.out] at RQ
            unfold RetFr at RQ
            dsimp only at RQ
            rw [Hfn.out] at RQ
            rw [← Hcl.out] at RQ
            have NO := Lib.hid hno; have HC1 := Lib.hid hC1
            clear hno hC1
            have y0 := blk_cell KX.out 0; have y1 := blk_cell KX.out 1; have y2 := blk_cell KX.out 2; have y3 := blk_cell KX.out 3
            go_wp2_with fail
            refine RQ.out.mono ?_
            rintro e w3 ⟨g3, c3, rfl, o3, x3⟩
            have X3 := Lib.hid x3
            have FD := Lib.hid (cin_feed_one w3 w1.heap.size gc r s F (HC1.out.ext x3) HCI.out ⟨HID.out.1, HID.out.2.1, HID.out.2.2.2.1, HID.out.2.2.2.2.2.1⟩ (by rw [HID.out.2.2.1]; simp) cl NO.out _ c3 FL HFL.out fn Hfn.out (Rd.of_own o3))
            clear o3 x3 y0 y1 y2 y3
            go_wp2_with fail
            refine FD.out.mono ?_
            rintro e w4 ⟨rfl, h4, g4⟩
            have KX4 := Lib.hid (g4.blk (blk_ext KX.out X3.out) hbxF)
            have KR4 := Lib.hid (g4.blk (blk_ext KR.out X3.out) hbrF)
            have OW4 := Lib.hid (g4.own (own_ext (own_ext HOW.out XW.out) X3.out) hhF)
            have NX := Lib.hid (cin_next w4 w1.heap.size gc r _ F h4 HID.out.2.2.2.2.1 HID.out.2.2.2.2.2.1 cl [] (by dsimp only; rw [HID.out.2.2.1]; rfl) (by have := (norm_len' NO.out).1; omega))
            have E4 := Lib.hid (g4.out ((HX.out.trans XW.out).trans X3.out))
            clear h4 g4
            go_wp2_with fail
            refine NX.out.mono ?_
            rintro e w5 ⟨A5, k5, rfl, h5, g5⟩
            obtain ⟨s6, Hs6⟩ : ∃ s6 : CSt, Hid ({ s with line := [], out := some cl } = s6) := ⟨_, rfl⟩
            replace h5 : ConnIn w5 w1.heap.size gc r s6 F := by rw [← Hs6.out]; exact h5
            have P6 : Hid ((s6.ws = [] ∧ s6.cl = false ∧ s6.line = [] ∧ s6.fin = 0 ∧ s6.closed = false ∧ s6.hung = false) ∧ s6.led = ledOf hs ∧ s6.wr = s.wr ∧ s6.out = some cl) := by
              rw [← Hs6.out]
              obtain ⟨i1, i2, i3, i4, i5, i6, i7⟩ := HID.out
              exact ⟨⟨i1, i2, rfl, i4, i6, i7⟩, HLED.out, rfl, rfl⟩
            go_upto_region 25 with fail
            obtain ⟨W6, hW6⟩ : ∃ W6, w5.alloc (.cells #[.int .u8 (cl.op : Int), .int .i64 (cl.pol : Int), .slice A5 cl.key.length k5, .int .i64 (cl.num : Int)] 63) = W6 := ⟨_, rfl⟩
            have x6 : Ext w5 W6 := by rw [← hW6]; exact (Ext.refl w5).alloc _
            rw [hW6]
            clear hW6
            have KX6 := Lib.hid (blk_ext (g5.blk KX4.out hbxF) x6)
            have KR6 := Lib.hid (blk_ext (g5.blk KR4.out hbrF) x6)
            have OW6 := Lib.hid (own_ext (g5.own OW4.out hhF) x6)
            have ci6 : CInv s6 := by
              rw [← Hs6.out]
              exact ⟨HCI.out.1, (fun d hd => by cases hd), (fun d hd => by injection hd with hd; rw [← hd]; exact NO.out), HCI.out.2.2.2.1, HCI.out.2.2.2.2⟩
            have CI6 := Lib.hid ci6
            have RP := Lib.hid (cin_reply W6 w1.heap.size gc r s6 F (h5.ext x6) ci6 (by have := HWR.out; rw [P6.out.2.2.1]; omega) (by rw [P6.out.2.1, ledOf_len, HHL.out]; omega) cl P6.out.2.2.2 9 (by omega) false 0 0 0 0)
            have E6 := Lib.hid ((g5.out E4.out).trans x6)
            clear h5 g5 x6 ci6
            have z0 := blk_cell KR6.out 0; have z1 := blk_cell KR6.out 1; have z2 := blk_cell KR6.out 2; have z3 := blk_cell KR6.out 3; have z4 := blk_cell KR6.out 4; have z5 := blk_cell KR6.out 5
            go_wp2_with fail
            refine RP.out.mono ?_
            rintro e w7 ⟨q, B, hri, rfl, h7, g7⟩
            obtain rfl : q = 0 := rep_ok hri (by decide) (by intro x hx; simp at hx; unfold okN; omega)
            rw [if_pos rfl] at h7
            have HBL := Lib.hid (rep_len hri)
            have CI7 := Lib.hid (cinv_replied CI6.out (c := cl) P6.out.2.2.2 9 0 (rep_lt hri))
            have KX7 := Lib.hid (g7.blk KX6.out hbxF)
            have KR7 := Lib.hid (g7.blk KR6.out hbrF)
            have OW7 := Lib.hid (g7.own OW6.out hhF)
            have E7 := Lib.hid (g7.out E6.out)
            have H7 := Lib.hid h7
            have nbx : (Value.slice HA hn hc).ownBlock ≠ some bx := fun e => by have := (HOW.out.lt bx e).2; omega
            have nbr : (Value.slice HA hn hc).ownBlock ≠ some br := fun e => by have := (HOW.out.lt br e).2; omega
            have hs7 : w1.heap.size ≤ w7.heap.size := E7.out.size
            clear h7 g7 hri z0 z1 z2 z3 z4 z5
            have z0 := blk_cell KR7.out 0; have z4 := blk_cell KR7.out 4; have y0 := blk_cell KX7.out 0; have y3 := blk_cell KX7.out 3
            go_wp2_with fail
            go_roundw
            case rel =>
              have es := replied_err (s := s6) (c := cl) (e := 9) (B := B) (by decide) P6.out.1.2.2.2.2.2 0
              have H8 := H7.out; have CI8 := CI7.out
              rw [show ((9 : Nat) : Int) = 9 from rfl, es] at H8 
              rw [es] at CI8
              refine ⟨k + 1, ser + 1, hn, hc, HA, hs, { s6 with wr := s6.wr ++ (len4 B.length ++ B), out := none }, hlt, by omega, by omega, by go_num, by first | rfl | go_num, rfl, HHL.out, by omega, OW7.out, HPW.out, fun m hm => by have := HIN.out m hm; omega, P6.out.2.1, ⟨P6.out.1.1, P6.out.1.2.1, P6.out.1.2.2.1, P6.out.1.2.2.2.1, rfl, P6.out.1.2.2.2.2.1, P6.out.1.2.2.2.2.2⟩, CI8, ?_, H8.more (Ext.refl _) (fun b hb => .inl (hhF b (by simpa using hb))), E7.out⟩
              have := HWR.out
              simp only [List.length_append, HBL.out, P6.out.2.2.1, len4_len]
              omega
            case measure => simp [intOf]; omega
          · have i16 : ((v : Int) % 16 == 3) = false := by simp; omega
            have H16 := Lib.hid h16
            clear h16
            go_upto_region 22 with fail
            obtain ⟨m, Hm⟩ : ∃ m : Nat, Hid (2 * (ser + 1) + v % 2 = m) := ⟨_, rfl⟩
            have em : (2 : Int) * ((ser : Int) + 1) + (v : Int) % 2 = (m : Int) := by have := Hm.out; omega
            have hm200 : m ≤ 200 := by have := Hm.out; omega
            have hkm : 97 + m % 2 = kb := by have := Hm.out; have := Hkb.out; omega
            rw [em]
            clear em
            obtain ⟨bx, hbx⟩ : ∃ bx, wr.heap.size + 1 = bx := ⟨_, rfl⟩
            obtain ⟨br, hbr⟩ : ∃ br, bx + 1 = br := ⟨_, rfl⟩
            obtain ⟨W1, hW1⟩ : ∃ W1, (W0.alloc (.cells #[.int .u8 2, .int .i64 1, .slice (some ⟨wr.heap.size, 0, none⟩) 1 1, .int .i64 0] 63)).alloc (.cells #[.int .i64 0, .bool true, .int .i64 0, .int .i64 0, .int .i64 (m : Int), .int .i64 0] 74) = W1 := ⟨_, rfl⟩
            have KX := Lib.hid (show W1.heap[bx]? = some (.cells #[.int .u8 2, .int .i64 1, .slice (some ⟨wr.heap.size, 0, none⟩) 1 1, .int .i64 0] 63 (0, 0)) by rw [← hW1]; exact blk_past (blk_newk W0 _ (by omega)) _)
            have KR := Lib.hid (show W1.heap[br]? = some (.cells #[.int .i64 0, .bool true, .int .i64 0, .int .i64 0, .int .i64 (m : Int), .int .i64 0] 74 (0, 0)) by rw [← hW1]; exact blk_newk _ _ (by simp; omega))
            have x01 : Ext W0 W1 := by rw [← hW1]; exact ((Ext.refl W0).alloc _).alloc _
            rw [hbx, hbr, hW1]
            clear hW1
            have XW := Lib.hid (x0.trans x01)
            have RK1 := Lib.hid (RK.out.ext x01)
            clear x0 x01
            obtain ⟨F, HF⟩ : ∃ F, Hid (F = (Value.slice HA hn hc).ownBlock.toList ++ [bx, br]) := ⟨_, rfl⟩
            have hbxF : bx ∈ F := by rw [HF.out]; simp
            have hbrF : br ∈ F := by rw [HF.out]; simp
            have hhF : ∀ b, (Value.slice HA hn hc).ownBlock = some b → b ∈ F := fun b e => by rw [HF.out, e]; simp
            have hC1 : ConnIn W1 w1.heap.size gc r s F := HCN.out.more XW.out (fun b hb => by
              rw [HF.out] at hb
              rcases List.mem_append.1 hb with hb | hb
              · exact .inl hb
              · simp at hb
                have := blk_lt KX.out; have := blk_lt KR.out
                exact .inr (by omega))
            obtain ⟨cl, Hcl⟩ : ∃ cl : CCall, Hid (⟨2, 1, [kb], 0⟩ = cl) := ⟨_, rfl⟩
            have hno : NormC cl.op cl.pol cl.key cl.num := by rw [← Hcl.out]; exact norm_acq hkb
            obtain ⟨FL, HFL⟩ : ∃ FL, Hid (frameOf cl = FL) := ⟨_, rfl⟩
            obtain ⟨fn, Hfn⟩ : ∃ fn, Hid (FL.length = fn) := ⟨_, rfl⟩
            have RQ := Lib.hid (crequest_norm cl hno 1 (by rw [← Hcl.out]; rfl) (some ⟨wr.heap.size, 0, none⟩) 1 W1 (by rw [← Hcl.out]; exact RK1.out))
            rw [HFL.out] at RQ
            unfold RetFr at RQ
            dsimp only at RQ
            rw [Hfn.out] at RQ
            rw [← Hcl.out] at RQ
            have NO := Lib.hid hno; have HC1 := Lib.hid hC1
            clear hno hC1
            have y0 := blk_cell KX.out 0; have y1 := blk_cell KX.out 1; have y2 := blk_cell KX.out 2; have y3 := blk_cell KX.out 3
            go_wp2_with fail
            refine RQ.out.mono ?_
            rintro e w3 ⟨g3, c3, rfl, o3, x3⟩
            have X3 := Lib.hid x3
            have FD := Lib.hid (cin_feed_one w3 w1.heap.size gc r s F (HC1.out.ext x3) HCI.out ⟨HID.out.1, HID.out.2.1, HID.out.2.2.2.1, HID.out.2.2.2.2.2.1⟩ (by rw [HID.out.2.2.1]; simp) cl NO.out _ c3 FL HFL.out fn Hfn.out (Rd.of_own o3))
            clear o3 x3 y0 y1 y2 y3
            go_wp2_with fail
            refine FD.out.mono ?_
            rintro e w4 ⟨rfl, h4, g4⟩
            have KX4 := Lib.hid (g4.blk (blk_ext KX.out X3.out) hbxF)
            have KR4 := Lib.hid (g4.blk (blk_ext KR.out X3.out) hbrF)
            have OW4 := Lib.hid (g4.own (own_ext (own_ext HOW.out XW.out) X3.out) hhF)
            have NX := Lib.hid (cin_next w4 w1.heap.size gc r _ F h4 HID.out.2.2.2.2.1 HID.out.2.2.2.2.2.1 cl [] (by dsimp only; rw [HID.out.2.2.1]; rfl) (by have := (norm_len' NO.out).1; omega))
            have E4 := Lib.hid (g4.out ((HX.out.trans XW.out).trans X3.out))
            clear h4 g4
            go_wp2_with fail
            refine NX.out.mono ?_
            rintro e w5 ⟨A5, k5, rfl, h5, g5⟩
            obtain ⟨s6, Hs6⟩ : ∃ s6 : CSt, Hid ({ s with line := [], out := some cl } = s6) := ⟨_, rfl⟩
            replace h5 : ConnIn w5 w1.heap.size gc r s6 F := by rw [← Hs6.out]; exact h5
            have P6 : Hid ((s6.ws = [] ∧ s6.cl = false ∧ s6.line = [] ∧ s6.fin = 0 ∧ s6.closed = false ∧ s6.hung = false) ∧ s6.led = ledOf hs ∧ s6.wr = s.wr ∧ s6.out = some cl) := by
              rw [← Hs6.out]
              obtain ⟨i1, i2, i3, i4, i5, i6, i7⟩ := HID.out
              exact ⟨⟨i1, i2, rfl, i4, i6, i7⟩, HLED.out, rfl, rfl⟩
            go_upto_region 25 with fail
            obtain ⟨W6, hW6⟩ : ∃ W6, w5.alloc (.cells #[.int .u8 (cl.op : Int), .int .i64 (cl.pol : Int), .slice A5 cl.key.length k5, .int .i64 (cl.num : Int)] 63) = W6 := ⟨_, rfl⟩
            have x6 : Ext w5 W6 := by rw [← hW6]; exact (Ext.refl w5).alloc _
            rw [hW6]
            clear hW6
            have KX6 := Lib.hid (blk_ext (g5.blk KX4.out hbxF) x6)
            have KR6 := Lib.hid (blk_ext (g5.blk KR4.out hbrF) x6)
            have OW6 := Lib.hid (own_ext (g5.own OW4.out hhF) x6)
            have ci6 : CInv s6 := by
              rw [← Hs6.out]
              exact ⟨HCI.out.1, (fun d hd => by cases hd), (fun d hd => by injection hd with hd; rw [← hd]; exact NO.out), HCI.out.2.2.2.1, HCI.out.2.2.2.2⟩
            have CI6 := Lib.hid ci6
            have RP := Lib.hid (cin_reply W6 w1.heap.size gc r s6 F (h5.ext x6) ci6 (by have := HWR.out; rw [P6.out.2.2.1]; omega) (by rw [P6.out.2.1, ledOf_len, HHL.out]; omega) cl P6.out.2.2.2 0 (by omega) true 0 0 (m : Int) 0)
            have E6 := Lib.hid ((g5.out E4.out).trans x6)
            clear h5 g5 x6 ci6
            have z0 := blk_cell KR6.out 0; have z1 := blk_cell KR6.out 1; have z2 := blk_cell KR6.out 2; have z3 := blk_cell KR6.out 3; have z4 := blk_cell KR6.out 4; have z5 := blk_cell KR6.out 5
            go_wp2_with fail
            refine RP.out.mono ?_
            rintro e w7 ⟨q, B, hri, rfl, h7, g7⟩
            obtain rfl : q = 0 := rep_ok hri (by decide) (by intro x hx; simp at hx; unfold okN; omega)
            rw [if_pos rfl] at h7
            have HBL := Lib.hid (rep_len hri)
            have CI7 := Lib.hid (cinv_replied CI6.out (c := cl) P6.out.2.2.2 0 (m : Int) (rep_lt hri))
            have KX7 := Lib.hid (g7.blk KX6.out hbxF)
            have KR7 := Lib.hid (g7.blk KR6.out hbrF)
            have OW7 := Lib.hid (g7.own OW6.out hhF)
            have E7 := Lib.hid (g7.out E6.out)
            have H7 := Lib.hid h7
            have nbx : (Value.slice HA hn hc).ownBlock ≠ some bx := fun e => by have := (HOW.out.lt bx e).2; omega
            have nbr : (Value.slice HA hn hc).ownBlock ≠ some br := fun e => by have := (HOW.out.lt br e).2; omega
            have hs7 : w1.heap.size ≤ w7.heap.size := E7.out.size
            clear h7 g7 hri z0 z1 z2 z3 z4 z5
            have z0 := blk_cell KR7.out 0; have z4 := blk_cell KR7.out 4; have y0 := blk_cell KX7.out 0; have y3 := blk_cell KX7.out 3
            go_wp2_with (at_builtin; refine app_n64 _ rfl (.tmp 106) (.tmp 109) rfl w1.heap.size rfl (own_ext OW7.out ((Ext.refl w7).alloc _)) rfl (m := 1) (news := [m]) rfl (rd_new w7 [.int .i64 (m : Int)] _) (by omega) (by simp; omega) ?_; intro B8 c8 w8 o8 g8 b8; have q0 := g8.cell (ext_cell ((Ext.refl w7).alloc _) z0) nbr.symm; have q1 := g8.cell (ext_cell ((Ext.refl w7).alloc _) y0) nbx.symm; have O8 := Lib.hid o8; have G8 := Lib.hid g8; have B8h := Lib.hid b8; clear o8 g8 b8 z0 z4 y0 y3)
            go_roundw
            case rel =>
              have es := replied_acq (s := s6) (c := cl) (sn := (m : Int)) (B := B) P6.out.1.2.2.2.2.2 (by rw [← Hcl.out])
              have H8 := H7.out; have CI8 := CI7.out
              rw [show ((0 : Nat) : Int) = 0 from rfl, es] at H8
              rw [es] at CI8
              have hled : s6.led ++ [⟨(cl.pol : Int), cl.key, (m : Int)⟩] = ledOf (hs ++ [m]) := by
                rw [P6.out.2.1, ← Hcl.out, ← hkm]
                unfold ledOf
                rw [List.map_append]
                rfl
              refine ⟨k + 1, ser + 1, hn + 1, c8, B8, hs ++ [m], { s6 with wr := s6.wr ++ (len4 B.length ++ B), out := none, led := s6.led ++ [⟨(cl.pol : Int), cl.key, (m : Int)⟩] }, hlt, by omega, by omega, by go_num, by go_num, rfl, by rw [List.length_append, HHL.out]; rfl, by omega, O8.out, ?_, ?_, hled, ⟨P6.out.1.1, P6.out.1.2.1, P6.out.1.2.2.1, P6.out.1.2.2.2.1, rfl, P6.out.1.2.2.2.2.1, P6.out.1.2.2.2.2.2⟩, CI8, ?_, (H8.ext ((Ext.refl w7).alloc (.cells #[.int .i64 (m : Int)] 2))).grown G8.out hhF (fun b hb => ?_), ((E7.out.alloc _).grown G8.out (fun q e => (OW7.out.lt q e).1))⟩
              · exact List.pairwise_append.2 ⟨HPW.out, List.pairwise_singleton _ _, fun x hx y hy => by rw [List.mem_singleton.1 hy]; have := HIN.out x hx; have := Hm.out; omega⟩
              · intro x hx
                rcases List.mem_append.1 hx with hx | hx
                · have := HIN.out x hx; omega
                · rw [List.mem_singleton.1 hx]; have := Hm.out; omega
              · have := HWR.out
                simp only [List.length_append, HBL.out, P6.out.2.2.1, len4_len]
                omega
              · have hb : (Value.slice B8 (hn + 1) c8).ownBlock = some b := by simpa using hb
                rcases B8h.out with h9 | h9
                · exact .inl (hhF b (h9 ▸ hb))
                · have hlt8 := (O8.out.lt b hb).2
                  rw [h9] at hb
                  injection hb with hb
                  exact .inr ⟨by omega, hlt8⟩
            case measure => simp [intOf]; omega
        · have i8 : ¬ (v : Int) % 8 < 4 := by omega
          have i8d : decide ((v : Int) % 8 < 4) = false := decide_eq_false i8
          by_cases hn0 : hn = 0
          · have in0 : ((hn : Int) == 0) = true := by simp; omega
            have i16 : ((v : Int) % 16 == 3) = false := by simp; omega
            have HN0 := Lib.hid hn0
            clear hn0
            go_upto_region 22 with fail
            obtain ⟨m, Hm⟩ : ∃ m : Nat, Hid (2 * (ser + 1) + v % 2 = m) := ⟨_, rfl⟩
            have em : (2 : Int) * ((ser : Int) + 1) + (v : Int) % 2 = (m : Int) := by have := Hm.out; omega
            have hm200 : m ≤ 200 := by have := Hm.out; omega
            have hkm : 97 + m % 2 = kb := by have := Hm.out; have := Hkb.out; omega
            rw [em]
            clear em
            obtain ⟨bx, hbx⟩ : ∃ bx, wr.heap.size + 1 = bx := ⟨_, rfl⟩
            obtain ⟨br, hbr⟩ : ∃ br, bx + 1 = br := ⟨_, rfl⟩
            obtain ⟨W1, hW1⟩ : ∃ W1, (W0.alloc (.cells #[.int .u8 2, .int .i64 1, .slice (some ⟨wr.heap.size, 0, none⟩) 1 1, .int .i64 0] 63)).alloc (.cells #[.int .i64 0, .bool true, .int .i64 0, .int .i64 0, .int .i64 (m : Int), .int .i64 0] 74) = W1 := ⟨_, rfl⟩
            have KX := Lib.hid (show W1.heap[bx]? = some (.cells #[.int .u8 2, .int .i64 1, .slice (some ⟨wr.heap.size, 0, none⟩) 1 1, .int .i64 0] 63 (0, 0)) by rw [← hW1]; exact blk_past (blk_newk W0 _ (by omega)) _)
            have KR := Lib.hid (show W1.heap[br]? = some (.cells #[.int .i64 0, .bool true, .int .i64 0, .int .i64 0, .int .i64 (m : Int), .int .i64 0] 74 (0, 0)) by rw [← hW1]; exact blk_newk _ _ (by simp; omega))
            have x01 : Ext W0 W1 := by rw [← hW1]; exact ((Ext.refl W0).alloc _).alloc _
            rw [hbx, hbr, hW1]
            clear hW1
            have XW := Lib.hid (x0.trans x01)
            have RK1 := Lib.hid (RK.out.ext x01)
            clear x0 x01
            obtain ⟨F, HF⟩ : ∃ F, Hid (F = (Value.slice HA hn hc).ownBlock.toList ++ [bx, br]) := ⟨_, rfl⟩
            have hbxF : bx ∈ F := by rw [HF.out]; simp
            have hbrF : br ∈ F := by rw [HF.out]; simp
            have hhF : ∀ b, (Value.slice HA hn hc).ownBlock = some b → b ∈ F := fun b e => by rw [HF.out, e]; simp
            have hC1 : ConnIn W1 w1.heap.size gc r s F := HCN.out.more XW.out (fun b hb => by
              rw [HF.out] at hb
              rcases List.mem_append.1 hb with hb | hb
              · exact .inl hb
              · simp at hb
                have := blk_lt KX.out; have := blk_lt KR.out
                exact .inr (by omega))
            obtain ⟨cl, Hcl⟩ : ∃ cl : CCall, Hid (⟨2, 1, [kb], 0⟩ = cl) := ⟨_, rfl⟩
            have hno : NormC cl.op cl.pol cl.key cl.num := by rw [← Hcl.out]; exact norm_acq hkb
            obtain ⟨FL, HFL⟩ : ∃ FL, Hid (frameOf cl = FL) := ⟨_, rfl⟩
            obtain ⟨fn, Hfn⟩ : ∃ fn, Hid (FL.length = fn) := ⟨_, rfl⟩
            have RQ := Lib.hid (crequest_norm cl hno 1 (by rw [← Hcl.out]; rfl) (some ⟨wr.heap.size, 0, none⟩) 1 W1 (by rw [← Hcl.out]; exact RK1.out))
            rw [HFL.out] at RQ
            unfold RetFr at RQ
            dsimp only at RQ
            rw [Hfn.out] at RQ
            rw [← Hcl.out] at RQ
            have NO := Lib.hid hno; have HC1 := Lib.hid hC1
            clear hno hC1
            have y0 := blk_cell KX.out 0; have y1 := blk_cell KX.out 1; have y2 := blk_cell KX.out 2; have y3 := blk_cell KX.out 3
            go_wp2_with fail
            refine RQ.out.mono ?_
            rintro e w3 ⟨g3, c3, rfl, o3, x3⟩
            have X3 := Lib.hid x3
            have FD := Lib.hid (cin_feed_one w3 w1.heap.size gc r s F (HC1.out.ext x3) HCI.out ⟨HID.out.1, HID.out.2.1, HID.out.2.2.2.1, HID.out.2.2.2.2.2.1⟩ (by rw [HID.out.2.2.1]; simp) cl NO.out _ c3 FL HFL.out fn Hfn.out (Rd.of_own o3))
            clear o3 x3 y0 y1 y2 y3
            go_wp2_with fail
            refine FD.out.mono ?_
            rintro e w4 ⟨rfl, h4, g4⟩
            have KX4 := Lib.hid (g4.blk (blk_ext KX.out X3.out) hbxF)
            have KR4 := Lib.hid (g4.blk (blk_ext KR.out X3.out) hbrF)
            have OW4 := Lib.hid (g4.own (own_ext (own_ext HOW.out XW.out) X3.out) hhF)
            have NX := Lib.hid (cin_next w4 w1.heap.size gc r _ F h4 HID.out.2.2.2.2.1 HID.out.2.2.2.2.2.1 cl [] (by dsimp only; rw [HID.out.2.2.1]; rfl) (by have := (norm_len' NO.out).1; omega))
            have E4 := Lib.hid (g4.out ((HX.out.trans XW.out).trans X3.out))
            clear h4 g4
            go_wp2_with fail
            refine NX.out.mono ?_
            rintro e w5 ⟨A5, k5, rfl, h5, g5⟩
            obtain ⟨s6, Hs6⟩ : ∃ s6 : CSt, Hid ({ s with line := [], out := some cl } = s6) := ⟨_, rfl⟩
            replace h5 : ConnIn w5 w1.heap.size gc r s6 F := by rw [← Hs6.out]; exact h5
            have P6 : Hid ((s6.ws = [] ∧ s6.cl = false ∧ s6.line = [] ∧ s6.fin = 0 ∧ s6.closed = false ∧ s6.hung = false) ∧ s6.led = ledOf hs ∧ s6.wr = s.wr ∧ s6.out = some cl) := by
              rw [← Hs6.out]
              obtain ⟨i1, i2, i3, i4, i5, i6, i7⟩ := HID.out
              exact ⟨⟨i1, i2, rfl, i4, i6, i7⟩, HLED.out, rfl, rfl⟩
            go_upto_region 25 with fail
            obtain ⟨W6, hW6⟩ : ∃ W6, w5.alloc (.cells #[.int .u8 (cl.op : Int), .int .i64 (cl.pol : Int), .slice A5 cl.key.length k5, .int .i64 (cl.num : Int)] 63) = W6 := ⟨_, rfl⟩
            have x6 : Ext w5 W6 := by rw [← hW6]; exact (Ext.refl w5).alloc _
            rw [hW6]
            clear hW6
            have KX6 := Lib.hid (blk_ext (g5.blk KX4.out hbxF) x6)
            have KR6 := Lib.hid (blk_ext (g5.blk KR4.out hbrF) x6)
            have OW6 := Lib.hid (own_ext (g5.own OW4.out hhF) x6)
            have ci6 : CInv s6 := by
              rw [← Hs6.out]
              exact ⟨HCI.out.1, (fun d hd => by cases hd), (fun d hd => by injection hd with hd; rw [← hd]; exact NO.out), HCI.out.2.2.2.1, HCI.out.2.2.2.2⟩
            have CI6 := Lib.hid ci6
            have RP := Lib.hid (cin_reply W6 w1.heap.size gc r s6 F (h5.ext x6) ci6 (by have := HWR.out; rw [P6.out.2.2.1]; omega) (by rw [P6.out.2.1, ledOf_len, HHL.out]; omega) cl P6.out.2.2.2 0 (by omega) true 0 0 (m : Int) 0)
            have E6 := Lib.hid ((g5.out E4.out).trans x6)
            clear h5 g5 x6 ci6
            have z0 := blk_cell KR6.out 0; have z1 := blk_cell KR6.out 1; have z2 := blk_cell KR6.out 2; have z3 := blk_cell KR6.out 3; have z4 := blk_cell KR6.out 4; have z5 := blk_cell KR6.out 5
            go_wp2_with fail
            refine RP.out.mono ?_
            rintro e w7 ⟨q, B, hri, rfl, h7, g7⟩
            obtain rfl : q = 0 := rep_ok hri (by decide) (by intro x hx; simp at hx; unfold okN; omega)
            rw [if_pos rfl] at h7
            have HBL := Lib.hid (rep_len hri)
            have CI7 := Lib.hid (cinv_replied CI6.out (c := cl) P6.out.2.2.2 0 (m : Int) (rep_lt hri))
            have KX7 := Lib.hid (g7.blk KX6.out hbxF)
            have KR7 := Lib.hid (g7.blk KR6.out hbrF)
            have OW7 := Lib.hid (g7.own OW6.out hhF)
            have E7 := Lib.hid (g7.out E6.out)
            have H7 := Lib.hid h7
            have nbx : (Value.slice HA hn hc).ownBlock ≠ some bx := fun e => by have := (HOW.out.lt bx e).2; omega
            have nbr : (Value.slice HA hn hc).ownBlock ≠ some br := fun e => by have := (HOW.out.lt br e).2; omega
            have hs7 : w1.heap.size ≤ w7.heap.size := E7.out.size
            clear h7 g7 hri z0 z1 z2 z3 z4 z5
            have z0 := blk_cell KR7.out 0; have z4 := blk_cell KR7.out 4; have y0 := blk_cell KX7.out 0; have y3 := blk_cell KX7.out 3
            go_wp2_with (at_builtin; refine app_n64 _ rfl (.tmp 106) (.tmp 109) rfl w1.heap.size rfl (own_ext OW7.out ((Ext.refl w7).alloc _)) rfl (m := 1) (news := [m]) rfl (rd_new w7 [.int .i64 (m : Int)] _) (by omega) (by simp; omega) ?_; intro B8 c8 w8 o8 g8 b8; have q0 := g8.cell (ext_cell ((Ext.refl w7).alloc _) z0) nbr.symm; have q1 := g8.cell (ext_cell ((Ext.refl w7).alloc _) y0) nbx.symm; have O8 := Lib.hid o8; have G8 := Lib.hid g8; have B8h := Lib.hid b8; clear o8 g8 b8 z0 z4 y0 y3)
            go_roundw
            case rel =>
              have es := replied_acq (s := s6) (c := cl) (sn := (m : Int)) (B := B) P6.out.1.2.2.2.2.2 (by rw [← Hcl.out])
              have H8 := H7.out; have CI8 := CI7.out
              rw [show ((0 : Nat) : Int) = 0 from rfl, es] at H8
              rw [es] at CI8
              have hled : s6.led ++ [⟨(cl.pol : Int), cl.key, (m : Int)⟩] = ledOf (hs ++ [m]) := by
                rw [P6.out.2.1, ← Hcl.out, ← hkm]
                unfold ledOf
                rw [List.map_append]
                rfl
              refine ⟨k + 1, ser + 1, hn + 1, c8, B8, hs ++ [m], { s6 with wr := s6.wr ++ (len4 B.length ++ B), out := none, led := s6.led ++ [⟨(cl.pol : Int), cl.key, (m : Int)⟩] }, hlt, by omega, by omega, by go_num, by go_num, rfl, by rw [List.length_append, HHL.out]; rfl, by omega, O8.out, ?_, ?_, hled, ⟨P6.out.1.1, P6.out.1.2.1, P6.out.1.2.2.1, P6.out.1.2.2.2.1, rfl, P6.out.1.2.2.2.2.1, P6.out.1.2.2.2.2.2⟩, CI8, ?_, (H8.ext ((Ext.refl w7).alloc (.cells #[.int .i64 (m : Int)] 2))).grown G8.out hhF (fun b hb => ?_), ((E7.out.alloc _).grown G8.out (fun q e => (OW7.out.lt q e).1))⟩
              · exact List.pairwise_append.2 ⟨HPW.out, List.pairwise_singleton _ _, fun x hx y hy => by rw [List.mem_singleton.1 hy]; have := HIN.out x hx; have := Hm.out; omega⟩
              · intro x hx
                rcases List.mem_append.1 hx with hx | hx
                · have := HIN.out x hx; omega
                · rw [List.mem_singleton.1 hx]; have := Hm.out; omega
              · have := HWR.out
                simp only [List.length_append, HBL.out, P6.out.2.2.1, len4_len]
                omega
              · have hb : (Value.slice B8 (hn + 1) c8).ownBlock = some b := by simpa using hb
                rcases B8h.out with h9 | h9
                · exact .inl (hhF b (h9 ▸ hb))
                · have hlt8 := (O8.out.lt b hb).2
                  rw [h9] at hb
                  injection hb with hb
                  exact .inr ⟨by omega, hlt8⟩
            case measure => simp [intOf]; omega
          · have in0 : ((hn : Int) == 0) = false := by simp; omega
            have inz : ¬ (hn : Int) = 0 := by omega
            go_upto_region 18 with fail
            obtain ⟨bx, hbx⟩ : ∃ bx, wr.heap.size + 1 = bx := ⟨_, rfl⟩
            obtain ⟨br, hbr⟩ : ∃ br, bx + 1 = br := ⟨_, rfl⟩
            obtain ⟨W1, hW1⟩ : ∃ W1, (W0.alloc (.cells #[.int .u8 2, .int .i64 1, .slice (some ⟨wr.heap.size, 0, none⟩) 1 1, .int .i64 0] 63)).alloc (.cells #[.int .i64 0, .bool false, .int .i64 0, .int .i64 0, .int .i64 0, .int .i64 0] 74) = W1 := ⟨_, rfl⟩
            have KX := Lib.hid (show W1.heap[bx]? = some (.cells #[.int .u8 2, .int .i64 1, .slice (some ⟨wr.heap.size, 0, none⟩) 1 1, .int .i64 0] 63 (0, 0)) by rw [← hW1]; exact blk_past (blk_newk W0 _ (by omega)) _)
            have KR := Lib.hid (show W1.heap[br]? = some (.cells #[.int .i64 0, .bool false, .int .i64 0, .int .i64 0, .int .i64 0, .int .i64 0] 74 (0, 0)) by rw [← hW1]; exact blk_newk _ _ (by simp; omega))
            have x01 : Ext W0 W1 := by rw [← hW1]; exact ((Ext.refl W0).alloc _).alloc _
            rw [hbx, hbr, hW1]
            clear hW1
            have XW := Lib.hid (x0.trans x01)
            have RK1 := Lib.hid (RK.out.ext x01)
            clear x0 x01
            obtain ⟨j, Hj⟩ : ∃ j, Hid (v / 8 % hn = j) := ⟨_, rfl⟩
            have hjn : j < hn := by rw [← Hj.out]; exact Nat.mod_lt _ (by omega)
            have ej : (v : Int) / 8 % (hn : Int) = (j : Int) := by rw [← Hj.out]; simp
            obtain ⟨m, hm0⟩ : ∃ m, hs[j]? = some m := ⟨_, List.getElem?_eq_getElem (by rw [HHL.out]; exact hjn)⟩
            have OW1 := Lib.hid (own_ext HOW.out XW.out)
            obtain ⟨hb0, hHA, hb1, hb2⟩ := own_some_s OW1.out (by have := own_cap OW1.out; omega)
            subst hHA
            have dm : W1.cell? ⟨hb0, j, none⟩ = some (.int .i64 (m : Int)) := (OW1.out.cellAt j (by omega)).trans (vals_get hm0)
            have HM0 := Lib.hid hm0
            have HMB := Lib.hid (HIN.out m (List.mem_of_getElem? hm0))
            clear hm0
            have KXa := Lib.hid (blk_ext KX.out ((Ext.refl W1).alloc (.cells #[.int .u8 (97 + (m : Int) % 2)] 5)))
            have KRa := Lib.hid (blk_ext KR.out ((Ext.refl W1).alloc (.cells #[.int .u8 (97 + (m : Int) % 2)] 5)))
            have y0 := blk_cell KXa.out 0; have y1 := blk_cell KXa.out 1; have y2 := blk_cell KXa.out 2; have y3 := blk_cell KXa.out 3
            have f0 := blk_frozen KXa.out 0; have f1 := blk_frozen KXa.out 1; have f2 := blk_frozen KXa.out 2; have f3 := blk_frozen KXa.out 3
            go_upto_region 20 with fail
            obtain ⟨kb2, Hkb2⟩ : ∃ kb2 : Nat, Hid (97 + m % 2 = kb2) := ⟨_, rfl⟩
            have ekb2 : (97 : Int) + (m : Int) % 2 = (kb2 : Int) := by have := Hkb2.out; omega
            have hkb2 : kb2 < 256 := by have := Hkb2.out; omega
            rw [ekb2] at KXa KRa ⊢
            clear ekb2 y0 y1 y2 y3 f0 f1 f2 f3 dm ej
            have RKa := rd_new W1 [.int .u8 (kb2 : Int)] 5
            have xa := (XW.out).alloc (.cells #[.int .u8 (kb2 : Int)] 5)
            obtain ⟨WA, hWA⟩ : ∃ WA, W1.alloc (.cells #[.int .u8 (kb2 : Int)] 5) = WA := ⟨_, rfl⟩
            rw [show W1.alloc (.cells ([Value.int .u8 (kb2 : Int)]).toArray 5) = WA from hWA] at RKa
            rw [hWA] at xa KXa KRa ⊢
            clear hWA
            obtain ⟨K2, hK2⟩ : ∃ K2, W1.heap.size = K2 := ⟨_, rfl⟩
            have hbxK : bx < K2 := by rw [← hK2]; exact blk_lt KX.out
            have hbrK : br < K2 := by rw [← hK2]; exact blk_lt KR.out
            rw [hK2] at RKa ⊢
            obtain ⟨W2, hW2⟩ : ∃ W2, (((WA.setCell ⟨bx, 0, none⟩ (.int .u8 3)).setCell ⟨bx, 1, none⟩ (.int .i64 1)).setCell ⟨bx, 2, none⟩ (.slice (some ⟨K2, 0, none⟩) 1 1)).setCell ⟨bx, 3, none⟩ (.int .i64 (m : Int)) = W2 := ⟨_, rfl⟩
            have gW2 : GB WA W2 (· = bx) := by rw [← hW2]; exact ((((GB.refl WA (· = bx)).set bx 0 _ (.inl rfl)).set bx 1 _ (.inl rfl)).set bx 2 _ (.inl rfl)).set bx 3 _ (.inl rfl)
            have KX2 := Lib.hid (show W2.heap[bx]? = some (.cells #[.int .u8 3, .int .i64 1, .slice (some ⟨K2, 0, none⟩) 1 1, .int .i64 (m : Int)] 63 (0, 0)) by rw [← hW2]; exact blk_set (blk_set (blk_set (blk_set KXa.out 0 _) 1 _) 2 _) 3 _)
            have KR2 := Lib.hid (gW2.blk KRa.out (by omega))
            have RK2 := Lib.hid (gW2.rd RKa (fun p hp e => by injection hp with hp; subst hp; dsimp only at e; omega))
            have XW2 := Lib.hid (gW2.to_ext xa (fun i e => by omega))
            rw [hW2]
            clear hW2 gW2 RKa xa hK2 hbxK KXa KRa
            have nbx : ¬ br = bx := by omega
            by_cases h5 : v % 16 = 5
            · have i5 : ((v : Int) % 16 == 5) = true := by simp; omega
              have H5v := Lib.hid h5
              clear h5
              have z0 := blk_cell KR2.out 0; have z1 := blk_cell KR2.out 1; have z2 := blk_cell KR2.out 2; have z3 := blk_cell KR2.out 3; have z4 := blk_cell KR2.out 4; have z5 := blk_cell KR2.out 5
              have t0 := blk_frozen KR2.out 0; have t1 := blk_frozen KR2.out 1; have t2 := blk_frozen KR2.out 2; have t3 := blk_frozen KR2.out 3; have t4 := blk_frozen KR2.out 4; have t5 := blk_frozen KR2.out 5
              go_upto_region 22 with fail
              clear z0 z1 z2 z3 z4 z5 t0 t1 t2 t3 t4 t5
              obtain ⟨W3, hW3⟩ : ∃ W3, (((((W2.setCell ⟨br, 0, none⟩ (.int .i64 11)).setCell ⟨br, 1, none⟩ (.bool false)).setCell ⟨br, 2, none⟩ (.int .i64 0)).setCell ⟨br, 3, none⟩ (.int .i64 0)).setCell ⟨br, 4, none⟩ (.int .i64 0)).setCell ⟨br, 5, none⟩ (.int .i64 0) = W3 := ⟨_, rfl⟩
              have gW3 : GB W2 W3 (· = br) := by rw [← hW3]; exact ((((((GB.refl W2 (· = br)).set br 0 _ (.inl rfl)).set br 1 _ (.inl rfl)).set br 2 _ (.inl rfl)).set br 3 _ (.inl rfl)).set br 4 _ (.inl rfl)).set br 5 _ (.inl rfl)
              have KR3 := Lib.hid (show W3.heap[br]? = some (.cells #[.int .i64 11, .bool false, .int .i64 0, .int .i64 0, .int .i64 0, .int .i64 0] 74 (0, 0)) by rw [← hW3]; exact blk_set (blk_set (blk_set (blk_set (blk_set (blk_set KR2.out 0 _) 1 _) 2 _) 3 _) 4 _) 5 _)
              have KX3 := Lib.hid (gW3.blk KX2.out (by omega))
              have RK3 := Lib.hid (gW3.rd RK2.out (fun p hp e => by injection hp with hp; subst hp; dsimp only at e; omega))
              have XW3 := Lib.hid (gW3.to_ext XW2.out (fun i e => by omega))
              rw [hW3]
              clear hW3 gW3
              obtain ⟨F, HF⟩ : ∃ F, Hid (F = (Value.slice (some ⟨hb0, 0, none⟩) hn hc).ownBlock.toList ++ [bx, br]) := ⟨_, rfl⟩
              have hbxF : bx ∈ F := by rw [HF.out]; simp
              have hbrF : br ∈ F := by rw [HF.out]; simp
              have hhF : ∀ b, (Value.slice (some ⟨hb0, 0, none⟩) hn hc).ownBlock = some b → b ∈ F := fun b e => by rw [HF.out, e]; simp
              have hC1 : ConnIn W3 w1.heap.size gc r s F := HCN.out.more XW3.out (fun b hb => by
                rw [HF.out] at hb
                rcases List.mem_append.1 hb with hb | hb
                · exact .inl hb
                · simp at hb
                  have := blk_lt KX3.out; have := blk_lt KR3.out
                  exact .inr (by omega))
              obtain ⟨cl, Hcl⟩ : ∃ cl : CCall, Hid (⟨3, 1, [kb2], m⟩ = cl) := ⟨_, rfl⟩
              have hno : NormC cl.op cl.pol cl.key cl.num := by rw [← Hcl.out]; exact norm_rel hkb2 HMB.out.1 (by have := HMB.out.2; omega)
              obtain ⟨FL, HFL⟩ : ∃ FL, Hid (frameOf cl = FL) := ⟨_, rfl⟩
              obtain ⟨fn, Hfn⟩ : ∃ fn, Hid (FL.length = fn) := ⟨_, rfl⟩
              have RQ := Lib.hid (crequest_norm cl hno 1 (by rw [← Hcl.out]; rfl) (some ⟨K2, 0, none⟩) 1 W3 (by rw [← Hcl.out]; exact RK3.out))
              rw [HFL.out] at RQ
              unfold RetFr at RQ
              dsimp only at RQ
              rw [Hfn.out] at RQ
              rw [← Hcl.out] at RQ
              have NO := Lib.hid hno; have HC1 := Lib.hid hC1
              clear hno hC1
              have y0 := blk_cell KX3.out 0; have y1 := blk_cell KX3.out 1; have y2 := blk_cell KX3.out 2; have y3 := blk_cell KX3.out 3
              go_wp2_with fail
              refine RQ.out.mono ?_
              rintro e w3 ⟨g3, c3, rfl, o3, x3⟩
              have X3 := Lib.hid x3
              have FD := Lib.hid (cin_feed_one w3 w1.heap.size gc r s F (HC1.out.ext x3) HCI.out ⟨HID.out.1, HID.out.2.1, HID.out.2.2.2.1, HID.out.2.2.2.2.2.1⟩ (by rw [HID.out.2.2.1]; simp) cl NO.out _ c3 FL HFL.out fn Hfn.out (Rd.of_own o3))
              clear o3 x3 y0 y1 y2 y3
              go_wp2_with fail
              refine FD.out.mono ?_
              rintro e w4 ⟨rfl, h4, g4⟩
              have KX4 := Lib.hid (g4.blk (blk_ext KX3.out X3.out) hbxF)
              have KR4 := Lib.hid (g4.blk (blk_ext KR3.out X3.out) hbrF)
              have OW4 := Lib.hid (g4.own (own_ext (own_ext HOW.out XW3.out) X3.out) hhF)
              have NX := Lib.hid (cin_next w4 w1.heap.size gc r _ F h4 HID.out.2.2.2.2.1 HID.out.2.2.2.2.2.1 cl [] (by dsimp only; rw [HID.out.2.2.1]; rfl) (by have := (norm_len' NO.out).1; omega))
              have E4 := Lib.hid (g4.out ((HX.out.trans XW3.out).trans X3.out))
              clear h4 g4
              go_wp2_with fail
              refine NX.out.mono ?_
              rintro e w5 ⟨A5, k5, rfl, h5, g5⟩
              obtain ⟨s6, Hs6⟩ : ∃ s6 : CSt, Hid ({ s with line := [], out := some cl } = s6) := ⟨_, rfl⟩
              replace h5 : ConnIn w5 w1.heap.size gc r s6 F := by rw [← Hs6.out]; exact h5
              have P6 : Hid ((s6.ws = [] ∧ s6.cl = false ∧ s6.line = [] ∧ s6.fin = 0 ∧ s6.closed = false ∧ s6.hung = false) ∧ s6.led = ledOf hs ∧ s6.wr = s.wr ∧ s6.out = some cl) := by
                rw [← Hs6.out]
                obtain ⟨i1, i2, i3, i4, i5, i6, i7⟩ := HID.out
                exact ⟨⟨i1, i2, rfl, i4, i6, i7⟩, HLED.out, rfl, rfl⟩
              go_upto_region 25 with fail
              obtain ⟨W6, hW6⟩ : ∃ W6, w5.alloc (.cells #[.int .u8 (cl.op : Int), .int .i64 (cl.pol : Int), .slice A5 cl.key.length k5, .int .i64 (cl.num : Int)] 63) = W6 := ⟨_, rfl⟩
              have x6 : Ext w5 W6 := by rw [← hW6]; exact (Ext.refl w5).alloc _
              rw [hW6]
              clear hW6
              have KX6 := Lib.hid (blk_ext (g5.blk KX4.out hbxF) x6)
              have KR6 := Lib.hid (blk_ext (g5.blk KR4.out hbrF) x6)
              have OW6 := Lib.hid (own_ext (g5.own OW4.out hhF) x6)
              have ci6 : CInv s6 := by
                rw [← Hs6.out]
                exact ⟨HCI.out.1, (fun d hd => by cases hd), (fun d hd => by injection hd with hd; rw [← hd]; exact NO.out), HCI.out.2.2.2.1, HCI.out.2.2.2.2⟩
              have CI6 := Lib.hid ci6
              have RP := Lib.hid (cin_reply W6 w1.heap.size gc r s6 F (h5.ext x6) ci6 (by have := HWR.out; rw [P6.out.2.2.1]; omega) (by rw [P6.out.2.1, ledOf_len, HHL.out]; omega) cl P6.out.2.2.2 11 (by omega) false 0 0 0 0)
              have E6 := Lib.hid ((g5.out E4.out).trans x6)
              clear h5 g5 x6 ci6
              have z0 := blk_cell KR6.out 0; have z1 := blk_cell KR6.out 1; have z2 := blk_cell KR6.out 2; have z3 := blk_cell KR6.out 3; have z4 := blk_cell KR6.out 4; have z5 := blk_cell KR6.out 5
              go_wp2_with fail
              refine RP.out.mono ?_
              rintro e w7 ⟨q, B, hri, rfl, h7, g7⟩
              obtain rfl : q = 0 := rep_ok hri (by decide) (by intro x hx; simp at hx; unfold okN; omega)
              rw [if_pos rfl] at h7
              have HBL := Lib.hid (rep_len hri)
              have CI7 := Lib.hid (cinv_replied CI6.out (c := cl) P6.out.2.2.2 11 0 (rep_lt hri))
              have KX7 := Lib.hid (g7.blk KX6.out hbxF)
              have KR7 := Lib.hid (g7.blk KR6.out hbrF)
              have OW7 := Lib.hid (g7.own OW6.out hhF)
              have E7 := Lib.hid (g7.out E6.out)
              have H7 := Lib.hid h7
              have nbx : (Value.slice (some ⟨hb0, 0, none⟩) hn hc).ownBlock ≠ some bx := fun e => by have := (HOW.out.lt bx e).2; omega
              have nbr : (Value.slice (some ⟨hb0, 0, none⟩) hn hc).ownBlock ≠ some br := fun e => by have := (HOW.out.lt br e).2; omega
              have hs7 : w1.heap.size ≤ w7.heap.size := E7.out.size
              clear h7 g7 hri z0 z1 z2 z3 z4 z5
              have z0 := blk_cell KR7.out 0; have z4 := blk_cell KR7.out 4; have y0 := blk_cell KX7.out 0; have y3 := blk_cell KX7.out 3
              go_wp2_with fail
              go_roundw
              case rel =>
                have es := replied_err (s := s6) (c := cl) (e := 11) (B := B) (by decide) P6.out.1.2.2.2.2.2 0
                have H8 := H7.out; have CI8 := CI7.out
                rw [show ((11 : Nat) : Int) = 11 from rfl, es] at H8 
                rw [es] at CI8
                refine ⟨k + 1, ser, hn, hc, (some ⟨hb0, 0, none⟩), hs, { s6 with wr := s6.wr ++ (len4 B.length ++ B), out := none }, hlt, by omega, by omega, by go_num, by first | rfl | go_num, rfl, HHL.out, by omega, OW7.out, HPW.out, fun m hm => by have := HIN.out m hm; omega, P6.out.2.1, ⟨P6.out.1.1, P6.out.1.2.1, P6.out.1.2.2.1, P6.out.1.2.2.2.1, rfl, P6.out.1.2.2.2.2.1, P6.out.1.2.2.2.2.2⟩, CI8, ?_, H8.more (Ext.refl _) (fun b hb => .inl (hhF b (by simpa using hb))), E7.out⟩
                have := HWR.out
                simp only [List.length_append, HBL.out, P6.out.2.2.1, len4_len]
                omega
              case measure => simp [intOf]; omega
            · have i5 : ((v : Int) % 16 == 5) = false := by simp; omega
              have H5v := Lib.hid h5
              clear h5
              go_upto_region 22 with fail
              obtain ⟨F, HF⟩ : ∃ F, Hid (F = (Value.slice (some ⟨hb0, 0, none⟩) hn hc).ownBlock.toList ++ [bx, br]) := ⟨_, rfl⟩
              have hbxF : bx ∈ F := by rw [HF.out]; simp
              have hbrF : br ∈ F := by rw [HF.out]; simp
              have hhF : ∀ b, (Value.slice (some ⟨hb0, 0, none⟩) hn hc).ownBlock = some b → b ∈ F := fun b e => by rw [HF.out, e]; simp
              have hC1 : ConnIn W2 w1.heap.size gc r s F := HCN.out.more XW2.out (fun b hb => by
                rw [HF.out] at hb
                rcases List.mem_append.1 hb with hb | hb
                · exact .inl hb
                · simp at hb
                  have := blk_lt KX2.out; have := blk_lt KR2.out
                  exact .inr (by omega))
              obtain ⟨cl, Hcl⟩ : ∃ cl : CCall, Hid (⟨3, 1, [kb2], m⟩ = cl) := ⟨_, rfl⟩
              have hno : NormC cl.op cl.pol cl.key cl.num := by rw [← Hcl.out]; exact norm_rel hkb2 HMB.out.1 (by have := HMB.out.2; omega)
              obtain ⟨FL, HFL⟩ : ∃ FL, Hid (frameOf cl = FL) := ⟨_, rfl⟩
              obtain ⟨fn, Hfn⟩ : ∃ fn, Hid (FL.length = fn) := ⟨_, rfl⟩
              have RQ := Lib.hid (crequest_norm cl hno 1 (by rw [← Hcl.out]; rfl) (some ⟨K2, 0, none⟩) 1 W2 (by rw [← Hcl.out]; exact RK2.out))
              rw [HFL.out] at RQ
              unfold RetFr at RQ
              dsimp only at RQ
              rw [Hfn.out] at RQ
              rw [← Hcl.out] at RQ
              have NO := Lib.hid hno; have HC1 := Lib.hid hC1
              clear hno hC1
              have y0 := blk_cell KX2.out 0; have y1 := blk_cell KX2.out 1; have y2 := blk_cell KX2.out 2; have y3 := blk_cell KX2.out 3
              go_wp2_with fail
              refine RQ.out.mono ?_
              rintro e w3 ⟨g3, c3, rfl, o3, x3⟩
              have X3 := Lib.hid x3
              have FD := Lib.hid (cin_feed_one w3 w1.heap.size gc r s F (HC1.out.ext x3) HCI.out ⟨HID.out.1, HID.out.2.1, HID.out.2.2.2.1, HID.out.2.2.2.2.2.1⟩ (by rw [HID.out.2.2.1]; simp) cl NO.out _ c3 FL HFL.out fn Hfn.out (Rd.of_own o3))
              clear o3 x3 y0 y1 y2 y3
              go_wp2_with fail
              refine FD.out.mono ?_
              rintro e w4 ⟨rfl, h4, g4⟩
              have KX4 := Lib.hid (g4.blk (blk_ext KX2.out X3.out) hbxF)
              have KR4 := Lib.hid (g4.blk (blk_ext KR2.out X3.out) hbrF)
              have OW4 := Lib.hid (g4.own (own_ext (own_ext HOW.out XW2.out) X3.out) hhF)
              have NX := Lib.hid (cin_next w4 w1.heap.size gc r _ F h4 HID.out.2.2.2.2.1 HID.out.2.2.2.2.2.1 cl [] (by dsimp only; rw [HID.out.2.2.1]; rfl) (by have := (norm_len' NO.out).1; omega))
              have E4 := Lib.hid (g4.out ((HX.out.trans XW2.out).trans X3.out))
              clear h4 g4
              go_wp2_with fail
              refine NX.out.mono ?_
              rintro e w5 ⟨A5, k5, rfl, h5, g5⟩
              obtain ⟨s6, Hs6⟩ : ∃ s6 : CSt, Hid ({ s with line := [], out := some cl } = s6) := ⟨_, rfl⟩
              replace h5 : ConnIn w5 w1.heap.size gc r s6 F := by rw [← Hs6.out]; exact h5
              have P6 : Hid ((s6.ws = [] ∧ s6.cl = false ∧ s6.line = [] ∧ s6.fin = 0 ∧ s6.closed = false ∧ s6.hung = false) ∧ s6.led = ledOf hs ∧ s6.wr = s.wr ∧ s6.out = some cl) := by
                rw [← Hs6.out]
                obtain ⟨i1, i2, i3, i4, i5, i6, i7⟩ := HID.out
                exact ⟨⟨i1, i2, rfl, i4, i6, i7⟩, HLED.out, rfl, rfl⟩
              go_upto_region 25 with fail
              obtain ⟨W6, hW6⟩ : ∃ W6, w5.alloc (.cells #[.int .u8 (cl.op : Int), .int .i64 (cl.pol : Int), .slice A5 cl.key.length k5, .int .i64 (cl.num : Int)] 63) = W6 := ⟨_, rfl⟩
              have x6 : Ext w5 W6 := by rw [← hW6]; exact (Ext.refl w5).alloc _
              rw [hW6]
              clear hW6
              have KX6 := Lib.hid (blk_ext (g5.blk KX4.out hbxF) x6)
              have KR6 := Lib.hid (blk_ext (g5.blk KR4.out hbrF) x6)
              have OW6 := Lib.hid (own_ext (g5.own OW4.out hhF) x6)
              have ci6 : CInv s6 := by
                rw [← Hs6.out]
                exact ⟨HCI.out.1, (fun d hd => by cases hd), (fun d hd => by injection hd with hd; rw [← hd]; exact NO.out), HCI.out.2.2.2.1, HCI.out.2.2.2.2⟩
              have CI6 := Lib.hid ci6
              have RP := Lib.hid (cin_reply W6 w1.heap.size gc r s6 F (h5.ext x6) ci6 (by have := HWR.out; rw [P6.out.2.2.1]; omega) (by rw [P6.out.2.1, ledOf_len, HHL.out]; omega) cl P6.out.2.2.2 0 (by omega) false 0 0 0 0)
              have E6 := Lib.hid ((g5.out E4.out).trans x6)
              clear h5 g5 x6 ci6
              have z0 := blk_cell KR6.out 0; have z1 := blk_cell KR6.out 1; have z2 := blk_cell KR6.out 2; have z3 := blk_cell KR6.out 3; have z4 := blk_cell KR6.out 4; have z5 := blk_cell KR6.out 5
              go_wp2_with fail
              refine RP.out.mono ?_
              rintro e w7 ⟨q, B, hri, rfl, h7, g7⟩
              obtain rfl : q = 0 := rep_ok hri (by decide) (by intro x hx; simp at hx; unfold okN; omega)
              rw [if_pos rfl] at h7
              have HBL := Lib.hid (rep_len hri)
              have CI7 := Lib.hid (cinv_replied CI6.out (c := cl) P6.out.2.2.2 0 0 (rep_lt hri))
              have KX7 := Lib.hid (g7.blk KX6.out hbxF)
              have KR7 := Lib.hid (g7.blk KR6.out hbrF)
              have OW7 := Lib.hid (g7.own OW6.out hhF)
              have E7 := Lib.hid (g7.out E6.out)
              have H7 := Lib.hid h7
              have nbx : (Value.slice (some ⟨hb0, 0, none⟩) hn hc).ownBlock ≠ some bx := fun e => by have := (HOW.out.lt bx e).2; omega
              have nbr : (Value.slice (some ⟨hb0, 0, none⟩) hn hc).ownBlock ≠ some br := fun e => by have := (HOW.out.lt br e).2; omega
              have hs7 : w1.heap.size ≤ w7.heap.size := E7.out.size
              clear h7 g7 hri z0 z1 z2 z3 z4 z5
              have z0 := blk_cell KR7.out 0; have z4 := blk_cell KR7.out 4; have y0 := blk_cell KX7.out 0; have y3 := blk_cell KX7.out 3
              go_wp2_with fail
              go_loopw [14, 121] (fun lv i wr => ∃ (q m2 c2 : Nat) (B2 : Option Addr), q ≤ hn ∧ i = .int .i64 (q : Int) ∧ lv = .slice B2 m2 c2 ∧ ((hs.take q).filter fun x => decide (x ≠ m)).length = m2 ∧ wr.ownsRow w7.heap.size 2 1 (.slice B2 m2 c2) m2 (vals .i64 ((hs.take q).filter fun x => decide (x ≠ m))) ∧ Ext w7 wr) (fun _ i _ => hn - (intOf i).toNat)
              case atStart => exact ⟨0, 0, 0, none, Nat.zero_le _, rfl, rfl, by rw [List.take_zero]; rfl, by rw [List.take_zero]; exact World.ownsRow_nil _ _ _ _, Ext.refl _⟩
              case round =>
                obtain ⟨q, m2, c2, B2, hq, rfl, rfl, hm2, ho2, hx2⟩ := hrel
                have HM2 := Lib.hid hm2; have HO2 := Lib.hid ho2; have HX2 := Lib.hid hx2
                have hm2n : m2 ≤ hn := by rw [← hm2]; exact Nat.le_trans (List.length_filter_le _ _) (by rw [List.length_take]; omega)
                have hsx : w7.heap.size ≤ wr.heap.size := hx2.size
                have y3x := ext_cell hx2 y3
                clear hm2 ho2
                by_cases hqn : q < hn
                · obtain ⟨x, hx⟩ : ∃ x, hs[q]? = some x := ⟨_, List.getElem?_eq_getElem (by rw [HHL.out]; exact hqn)⟩
                  have dx : wr.cell? ⟨hb0, q, none⟩ = some (.int .i64 (x : Int)) := ext_cell hx2 ((OW7.out.cellAt q (by omega)).trans (vals_get hx))
                  have HT := Lib.hid (take_succ_of hx)
                  clear hx hx2
                  by_cases hxm : x = m
                  · have bxm : ((x : Int) != (m : Int)) = false := by simp; omega
                    have HXM := Lib.hid hxm
                    clear hxm
                    go_wp2_with fail
                    go_roundw
                    case rel => exact ⟨q + 1, m2, c2, B2, hqn, by go_num, rfl, by rw [HT.out, List.filter_append, List.filter_cons_of_neg (by simpa using HXM.out)]; simpa using HM2.out, by rw [HT.out, List.filter_append, List.filter_cons_of_neg (by simpa using HXM.out)]; simpa using HO2.out, HX2.out⟩
                    case measure => simp [intOf]; omega
                  · have bxm : ((x : Int) != (m : Int)) = true := by simp; omega
                    have HXM := Lib.hid hxm
                    clear hxm
                    go_wp2_with (at_builtin; refine app_n64 _ rfl (.tmp 129) (.tmp 131) rfl w7.heap.size rfl (own_ext HO2.out ((Ext.refl wr).alloc _)) rfl (m := 1) (news := [x]) rfl (rd_new wr [.int .i64 (x : Int)] _) (by omega) (by simp; omega) ?_; intro B8 c8 w8 o8 g8 b8; have O8 := Lib.hid o8; have G8 := Lib.hid g8; clear o8 g8 b8)
                    go_roundw
                    case rel => exact ⟨q + 1, m2 + 1, c8, B8, hqn, by go_num, rfl, by rw [HT.out, List.filter_append, List.filter_cons_of_pos (by simpa using HXM.out), List.length_append, HM2.out]; rfl, by rw [HT.out, List.filter_append, List.filter_cons_of_pos (by simpa using HXM.out)]; exact O8.out, (HX2.out.alloc _).grown G8.out (fun q e => (HO2.out.lt q e).1)⟩
                    case measure => simp [intOf]; omega
                · obtain rfl : q = hn := by omega
                  clear hx2 y3x
                  go_wp2_with fail
                  go_roundw
                  case rel =>
                    have HF9 : ((hs.take q).filter fun x => decide (x ≠ m)) = hs.filter fun x => decide (x ≠ m) := by rw [List.take_of_length_le (by rw [HHL.out]; exact Nat.le_refl _)]
                    have ho9 := HO2.out; have hm9 := HM2.out
                    rw [HF9] at ho9 hm9
                    have hcl : cl = ⟨3, 1, [97 + m % 2], m⟩ := by rw [← Hcl.out, Hkb2.out]
                    have es := replied_rel (s := s6) (B := B) P6.out.2.1 P6.out.1.2.2.2.2.2 HPW.out HM0.out 0
                    have H8 := H7.out; have CI8 := CI7.out
                    rw [hcl] at H8 CI8
                    rw [show ((0 : Nat) : Int) = 0 from rfl, es] at H8
                    rw [es] at CI8
                    refine ⟨k + 1, ser, m2, c2, B2, hs.filter (fun x => decide (x ≠ m)), { s6 with wr := s6.wr ++ (len4 B.length ++ B), out := none, led := ledOf (hs.filter fun x => decide (x ≠ m)) }, hlt, by omega, by omega, by go_num, by first | rfl | go_num, rfl, hm9, by omega, own_base ho9 (by omega), HPW.out.filter _, fun x hx => HIN.out x (List.mem_filter.1 hx).1, rfl, ⟨P6.out.1.1, P6.out.1.2.1, P6.out.1.2.2.1, P6.out.1.2.2.2.1, rfl, P6.out.1.2.2.2.2.1, P6.out.1.2.2.2.2.2⟩, CI8, ?_, H8.more HX2.out (fun b hb => ?_), E7.out.trans HX2.out⟩
                    · have := HWR.out
                      simp only [List.length_append, HBL.out, P6.out.2.2.1, len4_len]
                      omega
                    · have := ho9.lt b (by simpa using hb)
                      exact .inr this
                  case measure => simp [intOf]; omega
    · obtain rfl : k = n := by omega
      go_wp2_with fail
      refine (cin_take wr w1.heap.size gc r s _ HCN.out).mono ?_
      rintro e w3 ⟨WA, wc, rfl, h3, g3, -, -⟩
      have OW3 := Lib.hid (g3.own HOW.out (fun b e => by rw [e]; simp))
      have E3 := g3.out HX.out
      have hgl := h3.gc_lt
      have HU := cin_hangup w3 w1.heap.size gc r _ _ h3 (by show s.led.length ≤ _; rw [HLED.out, ledOf_len, HHL.out]; omega) (by show ∀ t ∈ s.led, _; rw [HLED.out]; exact fun t ht => by rw [(ledOf_keys hs t ht).1]; omega)
      dsimp only at HU
      rw [HLED.out, ledOf_len, HHL.out] at HU
      have E3h := Lib.hid E3; have HUh := Lib.hid HU
      clear h3 g3 E3 HU
      go_wp2_with fail
      refine HUh.out.mono ?_
      rintro e w4 ⟨LA, lc, lks, rfl, h4, hN, g4⟩
      have OW4 := Lib.hid (g4.own OW3.out (fun b e => by rw [e]; simp))
      have E4 := Lib.hid (g4.out E3h.out)
      have h34 : w3.heap.size ≤ w4.heap.size := g4.size
      have OP := Lib.hid (show Calls Try.prog 54 #[.pointer (some ⟨gc, 0, none⟩)] w4 fun e w' => e = .returned (.bool false) ∧ w4 = w' from cin_open w4 w1.heap.size gc r _ _ h4)
      have TK := Lib.hid (show Calls Try.prog 53 #[.pointer (some ⟨gc, 0, none⟩)] w4 fun e w' => ∃ WA wc, e = .returned (.slice WA 0 wc) ∧ (∃ s9 : CSt, CSt.led s9 = ledOf hs ∧ ConnIn w' w1.heap.size gc r s9 (Value.slice HA hn hc).ownBlock.toList) ∧ Gone w4 w' w1.heap.size (Value.slice HA hn hc).ownBlock.toList ∧ GB w4 w' (· = gc) from
        (cin_take w4 w1.heap.size gc r _ _ h4).mono fun e w' ⟨WA, wc, k1, k2, k3, _, k5⟩ => ⟨WA, wc, k1, ⟨_, rfl, k2⟩, k3, k5⟩)
      have HN := Lib.hid hN
      clear h4 g4 hN
      go_wp2_with fail
      refine OP.out.mono ?_
      rintro e w5 ⟨rfl, rfl⟩
      go_wp2_with fail
      refine TK.out.mono ?_
      rintro e w6 ⟨WB, wd, rfl, ⟨s6, hs6, h6⟩, g6, b6⟩
      have HN6 := Lib.hid (HN.out.gb b6 (fun b e => by rw [e]; exact hgl))
      have OW6 := Lib.hid (g6.own OW4.out (fun b e => by rw [e]; simp))
      have E6 := Lib.hid (g6.out E4.out)
      have LD := cin_ledger w6 w1.heap.size gc r s6 _ h6 (by rw [hs6, ledOf_len, HHL.out]; omega) (by rw [hs6]; exact fun t ht => by rw [(ledOf_keys hs t ht).1]; omega)
      rw [hs6] at LD
      unfold LedR at LD
      rw [ledOf_len, HHL.out] at LD
      have LDh := Lib.hid LD
      clear hs6 h6 g6 b6 LD
      go_wp2_with fail
      refine LDh.out.mono ?_
      rintro e w7 ⟨LB, ld, lks2, rfl, hN7, x7⟩
      have C7 := Lib.hid (toksSame_true w7 LB LA hn ld lc (ledOf hs) lks2 lks (by rw [ledOf_len, HHL.out]) (by omega) (fun t ht => ⟨by rw [(ledOf_keys hs t ht).1]; omega, (ledOf_keys hs t ht).2⟩) hN7.rd (HN6.out.rd.ext x7))
      have X7 := Lib.hid x7
      clear hN7 x7
      go_wp2_with fail
      refine C7.out.mono ?_
      rintro e w8 ⟨rfl, q8, rfl⟩
      have HN8 := Lib.hid (HN6.out.rd.ext (X7.out.drewN q8))
      have OW8 := Lib.hid (own_ext OW6.out (X7.out.drewN q8))
      have E8 := Lib.hid (E6.out.trans (X7.out.drewN q8))
      generalize w7.drewN q8 = w9 at HN8 OW8 E8 ⊢
      go_wp2_with fail
      go_loopw [164] (fun i wx => ∃ q : Nat, q ≤ hn ∧ i = .int .i64 (q : Int) ∧ Ext w9 wx) (fun i _ => hn - (intOf i).toNat)
      case atStart => exact ⟨0, Nat.zero_le _, rfl, Ext.refl _⟩
      case round =>
        obtain ⟨q, hq, rfl, hxx⟩ := hrel
        by_cases hqn : q < hn
        · obtain ⟨m, hm⟩ : ∃ m, hs[q]? = some m := ⟨_, List.getElem?_eq_getElem (by rw [HHL.out]; exact hqn)⟩
          obtain ⟨b9, o9, K9, kc9, hLA, -, a0, a1, a2, -, hk9⟩ := (HN8.out.ext hxx).at_ (i := q) (t := ⟨1, [97 + m % 2], (m : Int)⟩) (by unfold ledOf; rw [List.getElem?_map, hm]; rfl)
          dsimp only at a0 a1 a2 hk9
          subst hLA
          obtain ⟨hb9, hHA9, -, -⟩ := own_some_s OW8.out (by have := own_cap OW8.out; omega)
          subst hHA9
          have dm := ext_cell hxx ((OW8.out.cellAt q (by omega)).trans (vals_get hm))
          obtain ⟨kb9, ko9, hK9, hkk⟩ := hk9 (by simp [vals])
          have dk := hkk 0 (.int .u8 ((97 + m % 2 : Nat) : Int)) rfl
          subst hK9
          have HXX := Lib.hid hxx; have HM := Lib.hid hm
          clear hk9 hkk hm hxx
          rw [Nat.add_zero, show ((97 + m % 2 : Nat) : Int) = 97 + (m : Int) % 2 by omega] at dk
          have hmb := HIN.out m (List.mem_of_getElem? HM.out)
          have hmi : (m : Int) % 2 < 2 := by omega
          have hmj : 0 ≤ (m : Int) % 2 := by omega
          go_upto_region 46 with fail
          obtain ⟨X, hX⟩ : ∃ X, wr.alloc (.cells #[.int .i64 1, .slice (some ⟨kb9, ko9, none⟩) 1 kc9, .int .i64 (m : Int)] 53) = X := ⟨_, rfl⟩
          have xX : Ext wr X := by rw [← hX]; exact (Ext.refl wr).alloc _
          have KX := Lib.hid (show X.heap[wr.heap.size]? = some (.cells #[.int .i64 1, .slice (some ⟨kb9, ko9, none⟩) 1 kc9, .int .i64 (m : Int)] 53 (0, 0)) by rw [← hX]; exact blk_new wr _)
          first | rw [hX] | rw [show ([97 + m % 2] : List Nat).length = 1 from rfl, hX]
          clear hX a0 a1 a2
          have e0 := blk_cell KX.out 0; have e1 := blk_cell KX.out 1; have e2 := blk_cell KX.out 2
          have dmx := ext_cell xX dm; have dkx := ext_cell xX dk
          have XX := Lib.hid xX
          clear dm dk xX
          go_quiet (fail)
          go_wp2_with fail
          go_roundw
          case rel => exact ⟨q + 1, hqn, by go_num, HXX.out.trans (XX.out.drewN _)⟩
          case measure => simp [intOf]; omega
        · obtain rfl : q = hn := by omega
          go_wp2_with fail
          go_ret
          exact retTrue (X1.out.trans (E8.out.trans hxx))
end Go.Proofs.Ythkdjjfnmlemdaa
