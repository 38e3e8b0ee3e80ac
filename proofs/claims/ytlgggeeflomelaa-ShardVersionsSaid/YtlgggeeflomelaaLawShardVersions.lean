/- ShardVersions answers true. -/
import Derived.Test.YtlgggeeflomelaaShM
import Derived.Deep.CutBlock
namespace Go.Proofs.Ytlgggeeflomelaa
open Go.RowKit

theorem pick_wf {a : Int} (h : (Lit.int .i64 a).wf = true) : -9223372036854775808 ≤ a ∧ a ≤ 9223372036854775807 := by
  simp [Lit.wf, IntKind.min, IntKind.max, IntKind.signed, IntKind.bits] at h
  omega
theorem ShIn.ver {w0 w : World} {F : Nat → Prop} {gx k : Nat} {s : SSt} (h : ShIn w0 F gx k s w) : s.ver ≤ k := by
  obtain ⟨C, gb, L, h1, h2, h3, h4, h5, h6⟩ := h
  exact h6
theorem start3 {s : SSt} {who : Nat} {key : List Nat} (h : (key.take 3).length ≤ 3) : startErrS s who (key.take 3) = if idleS (s.call who) = false then 9 else 0 := by
  unfold startErrS
  rw [if_neg (by omega)]
set_option maxHeartbeats 16000000 in
set_option maxRecDepth 100000 in
theorem shardVersions_walk (w : World) (A : Option Addr) (m c : Nat) (R : List PickR) (hl : R.length = m) (hk : ∀ r ∈ R, PickOk w r) (hr : Rd w A (R.flatMap pickVals)) (_hnc : m ≤ c) (_hz : m ≤ 2932031007317) :
    Calls Try.prog 9 #[.slice A m c] w (RetTrue w) := by
  have Hl := Lib.hid hl; have Hk := Lib.hid hk; have Hr := Lib.hid hr
  clear hl hk hr
  go_enter Try.func9, Try.ntmps9
  go_wp2_with fail
  refine (shAwake w).mono ?_
  rintro e w1 ⟨rfl, hx1⟩
  go_wp2_with fail
  refine (sin_new w w1 hx1).mono ?_
  rintro e w2 ⟨gx, F2, rfl, h2, _, _⟩
  have hab : w.heap.size ≤ w2.heap.size := h2.out.size
  have H2 := Lib.hid (show VersAt w gx w2.heap.size 0 (w2.alloc (.cells #[.int .u8 0, .int .u8 0, .int .u8 0, .int .u8 0] 40)) from ⟨F2, sInit, [0, 0, 0, 0], h2.ext ((Ext.refl w2).alloc _), fun e => Nat.lt_irrefl _ (h2.lt _ e), hab, blk_new w2 _, ops_new⟩)
  clear h2
  go_upto_block 0 with fail
  go_cut [] (fun wd => Ext w wd)
  case first =>
    go_wp2_with fail
    go_loopw [16] (fun i wr => ∃ k : Nat, k ≤ m ∧ k ≤ 300 ∧ i = .int .i64 (k : Int) ∧ VersAt w gx w2.heap.size k wr) (fun i _ => m - (intOf i).toNat)
    case atStart => exact ⟨0, Nat.zero_le _, by omega, rfl, H2.out⟩
    case round =>
      obtain ⟨k, hk, hk2, rfl, F, s, l, hI, hnab, hab, kab, hops⟩ := hrel
      have HI := Lib.hid hI; have KAB := Lib.hid kab; have HOPS := Lib.hid hops; have HNAB := Lib.hid hnab
      clear kab hops hnab
      by_cases hlt : k < m
      · obtain ⟨r, hr⟩ : ∃ r, R[k]? = some r := ⟨_, List.getElem?_eq_getElem (by rw [Hl.out]; exact hlt)⟩
        have hok := Hk.out r (List.mem_of_getElem? hr)
        obtain ⟨b, off, hA, c0, c1, c2, c3⟩ := pick_cells (Hr.out.ext hI.out) hr
        obtain ⟨who, op, K, kc, key, val⟩ := r
        dsimp only at c0 c1 c2 c3
        obtain ⟨hw1, hop, hkb, hkl, hkc, hkr, hw2⟩ := hok
        dsimp only at hw1 hop hkb hkl hkc hkr hw2
        subst hA
        obtain ⟨n, hn⟩ : ∃ n, key.length = n := ⟨_, rfl⟩
        rw [hn] at c2 hkl
        by_cases h300 : k < 300
        · have FT := Lib.hid (fun (u : World) => fit_any u who val op n kc (min n 3) K key (pick_wf hw2).2 hop hn hkl (by unfold maxLen at hkc; omega) rfl)
          have HKB := Lib.hid hkb; have HKR := Lib.hid hkr
          have hab2 : w2.heap.size < wr.heap.size := blk_lt KAB.out
          have Hab := Lib.hid hab
          clear hr hI hw1 hkb hkr hw2 hn hkc hkl hab
          have h300' : ¬ (300 : Int) ≤ (k : Int) := by omega
          obtain ⟨W, hW⟩ : ∃ W, wr.alloc (.cells #[.int .i64 who, .int .u8 (op : Int), .slice K n kc, .int .i64 val] 70) = W := ⟨_, rfl⟩
          have xW : Ext wr W := by rw [← hW]; exact (Ext.refl wr).alloc _
          have KP := Lib.hid (show W.heap[wr.heap.size]? = some (.cells #[.int .i64 who, .int .u8 (op : Int), .slice K n kc, .int .i64 val] 70 (0, 0)) by rw [← hW]; exact blk_new wr _)
          have XW := Lib.hid xW
          clear xW
          go_upto_region 9 with fail
          (try rw [hW])
          clear hW c0 c1 c2 c3
          have p0 : W.cell? ⟨wr.heap.size, 0, none⟩ = some (.int .i64 who) := blk_cell KP.out 0
          have p1 : W.cell? ⟨wr.heap.size, 1, none⟩ = some (.int .u8 (op : Int)) := blk_cell KP.out 1
          have p2 : W.cell? ⟨wr.heap.size, 2, none⟩ = some (.slice K n kc) := blk_cell KP.out 2
          have p3 : W.cell? ⟨wr.heap.size, 3, none⟩ = some (.int .i64 val) := blk_cell KP.out 3
          go_wp2_with fail
          refine (FT.out W).mono ?_
          rintro e w3 ⟨K3, c3, m3, rfl, hm3, hr3, x3⟩
          dsimp only at hm3 hr3
          subst hr3
          have hfw := fitWho_lt who
          have hfo := fitOp_le op
          have hfv := fitVal_ok val
          have hm3' : m3 ≤ 3 := by rw [← hm3, List.length_take]; omega
          obtain ⟨fw, Hfw⟩ : ∃ x, Hid (fitWho who = x) := ⟨_, rfl⟩
          obtain ⟨fo, Hfo⟩ : ∃ x, Hid (fitOp op = x) := ⟨_, rfl⟩
          obtain ⟨fv, Hfv⟩ : ∃ x, Hid (fitVal val = x) := ⟨_, rfl⟩
          dsimp only
          rw [Hfw.out] at hfw ⊢
          rw [Hfo.out] at hfo ⊢
          rw [Hfv.out] at hfv ⊢
          have KP3 := Lib.hid (blk_ext KP.out x3)
          have s0 := blk_cell KP3.out 0; have s1 := blk_cell KP3.out 1; have s2 := blk_cell KP3.out 2; have s3 := blk_cell KP3.out 3
          have z0 := blk_frozen KP3.out 0; have z1 := blk_frozen KP3.out 1; have z2 := blk_frozen KP3.out 2; have z3 := blk_frozen KP3.out 3
          obtain ⟨V, hV⟩ : ∃ V, ((((w3.setCell ⟨wr.heap.size, 0, none⟩ (.int .i64 (fw : Int))).setCell ⟨wr.heap.size, 1, none⟩ (.int .u8 (fo : Int))).setCell ⟨wr.heap.size, 2, none⟩ (.slice K3 m3 c3)).setCell ⟨wr.heap.size, 3, none⟩ (.int .i64 fv)) = V := ⟨_, rfl⟩
          have KV := Lib.hid (show V.heap[wr.heap.size]? = some (.cells #[.int .i64 (fw : Int), .int .u8 (fo : Int), .slice K3 m3 c3, .int .i64 fv] 70 (0, 0)) by rw [← hV]; exact row4 KP3.out _ _ _ _)
          have gV : GB w3 V (· = wr.heap.size) := by rw [← hV]; exact put4_gb w3 wr.heap.size _ _ _ _
          have XV := Lib.hid (show Ext wr V from gV.to_ext (XW.out.trans x3) (fun i e => by omega))
          have hrV : Rd V K3 (vals .u8 (key.take 3)) := (rd_take3 3 HKR.out).ext (HI.out.out.trans XV.out)
          have Hm3 := Lib.hid hm3; have Hfv2 := Lib.hid hfv; have HRV := Lib.hid hrV
          clear hm3 x3 gV p0 p1 p2 p3 hfv hrV hk2
          go_upto_region 10 with fail
          (try rw [hV])
          clear hV s0 s1 s2 s3 z0 z1 z2 z3
          have q0 : V.cell? ⟨wr.heap.size, 0, none⟩ = some (.int .i64 (fw : Int)) := blk_cell KV.out 0
          have q1 : V.cell? ⟨wr.heap.size, 1, none⟩ = some (.int .u8 (fo : Int)) := blk_cell KV.out 1
          have VR := Lib.hid (sin_version w V F gx (1 + k) s (HI.out.ext XV.out) (by omega))
          go_wp2_with fail
          refine VR.out.mono ?_
          rintro e w4 ⟨rfl, x4⟩
          have KV4 := Lib.hid (blk_ext KV.out x4)
          have X4 := Lib.hid (XV.out.trans x4)
          have r0 : w4.cell? ⟨wr.heap.size, 0, none⟩ = some (.int .i64 (fw : Int)) := blk_cell KV4.out 0
          have r1 : w4.cell? ⟨wr.heap.size, 1, none⟩ = some (.int .u8 (fo : Int)) := blk_cell KV4.out 1
          have r2 : w4.cell? ⟨wr.heap.size, 2, none⟩ = some (.slice K3 m3 c3) := blk_cell KV4.out 2
          have r3 : w4.cell? ⟨wr.heap.size, 3, none⟩ = some (.int .i64 fv) := blk_cell KV4.out 3
          clear q0 q1
          have hkl3 : (key.take 3).length ≤ 3 := by rw [List.length_take]; omega
          have hb3 : ∀ x ∈ key.take 3, x < 256 := fun x hx => HKB.out x (List.mem_of_mem_take hx)
          have hab4 : w4.heap[w2.heap.size]? = some (.cells (vals .u8 l).toArray 40 (0, 0)) := blk_ext KAB.out X4.out
          have hpb : wr.heap.size < w4.heap.size := blk_lt KV4.out
          have hadd : IntKind.i64.wrap (s.ver : Int) = (s.ver : Int) := by have := HI.out.ver; rw [IntKind.wrap_i64]; omega
          have hnp : ¬ F wr.heap.size := fun e => Nat.lt_irrefl _ (HI.out.lt _ e)
          by_cases hz : fo = 0
          · subst hz
            have PD := Lib.hid (fun u (x : Ext wr u) => sin_pend w u F gx (1 + k) fw s (HI.out.ext x) (by omega))
            by_cases hi : s.call fw = .idle
            · have hp : idleS (s.call fw) = true := (idleS_iff _).2 hi
              rw [hp] at PD
              have VR2 := Lib.hid (fun u (x : Ext wr u) => sin_version w u F gx (1 + k) s (HI.out.ext x) (by omega))
              go_wp2_with fail
              refine (PD.out w4 X4.out).mono ?_
              rintro e w5 ⟨rfl, rfl⟩
              go_wp2_with fail
              refine (VR2.out w4 X4.out).mono ?_
              rintro e w6 ⟨rfl, x6⟩
              have H6 := Lib.hid (show VersAt w gx w2.heap.size (k + 1) w6 from ⟨F, s, l, (HI.out.ext (X4.out.trans x6)).more (by omega), HNAB.out, Hab.out, blk_ext hab4 x6, HOPS.out⟩)
              clear x6
              go_wp2_with fail
              go_roundw
              case rel => exact ⟨k + 1, hlt, h300, by go_num, H6.out⟩
              case measure => simp [intOf]; omega
            · have hp : idleS (s.call fw) = false := by
                cases hq : idleS (s.call fw) with
                | false => rfl
                | true => exact absurd ((idleS_iff _).1 hq) hi
              rw [hp] at PD
              have SP := Lib.hid (fun u (x : Ext wr u) => sin_step w u F gx (1 + k) fw s (HI.out.ext x) (by omega) hi (by omega))
              have hsv := sver_law (who := fw) (HI.out.inv)
              have hol := HOPS.out.2 fw hfw hi
              obtain ⟨s', hs'⟩ : ∃ x, (sStep s fw).1 = x := ⟨_, rfl⟩
              obtain ⟨dn, hdn⟩ : ∃ x, (sStep s fw).2.done = x := ⟨_, rfl⟩
              obtain ⟨er, her⟩ : ∃ x, (sStep s fw).2.err = x := ⟨_, rfl⟩
              obtain ⟨nu, hnu⟩ : ∃ x, (sStep s fw).2.num = x := ⟨_, rfl⟩
              obtain ⟨o, ho⟩ : ∃ x, callOp (s.call fw) = x := ⟨_, rfl⟩
              have hup : upOf s fw = if dn = true ∧ er = 0 ∧ o ≠ 1 then 1 else 0 := by unfold upOf upP; rw [hdn, her, ho]
              have hops' := ops_step (who := fw) HOPS.out
              rw [hs'] at hops' hsv SP
              rw [hdn, her, hnu] at SP
              rw [ho] at hol
              have HOL := Lib.hid hol; have HOPS' := Lib.hid hops'; have HSV := Lib.hid hsv; have HUP := Lib.hid hup
              clear hs' hdn her hnu ho hsv hol hops' hup
              have HAB4 := Lib.hid hab4
              clear hab4
              go_wp2_with fail
              refine (PD.out w4 X4.out).mono ?_
              rintro e w5 ⟨rfl, rfl⟩
              go_wp2_with fail
              refine (SP.out w4 X4.out).mono ?_
              rintro e w5 ⟨rfl, F5, i5, g5, f5⟩
              have KP5 := Lib.hid (g5.blk KV4.out hnp)
              have AB5 := Lib.hid (g5.blk HAB4.out HNAB.out)
              have I5 := Lib.hid i5
              have N5 := Lib.hid (show ¬ F5 w2.heap.size from fun e => (f5 _ e).elim HNAB.out (fun h => by omega))
              obtain ⟨W5, hW5⟩ : ∃ W5, w5.alloc (.cells #[.bool dn, .int .i64 (er : Int), .int .i64 nu] 74) = W5 := ⟨_, rfl⟩
              have X5 := Lib.hid (show Ext w5 W5 by rw [← hW5]; exact (Ext.refl w5).alloc _)
              have KR5 := Lib.hid (show W5.heap[w5.heap.size]? = some (.cells #[.bool dn, .int .i64 (er : Int), .int .i64 nu] 74 (0, 0)) by rw [← hW5]; exact blk_new w5 _)
              have y0 : W5.cell? ⟨w5.heap.size, 0, none⟩ = some (.bool dn) := blk_cell KR5.out 0
              have y1 : W5.cell? ⟨w5.heap.size, 1, none⟩ = some (.int .i64 (er : Int)) := blk_cell KR5.out 1
              have y2 : W5.cell? ⟨wr.heap.size, 0, none⟩ = some (.int .i64 (fw : Int)) := blk_cell (blk_ext KP5.out X5.out) 0
              have y3 : W5.cell? ⟨w2.heap.size, fw, none⟩ = some (.int .u8 (o : Int)) := (blk_cell (blk_ext AB5.out X5.out) fw).trans (by rw [List.getElem?_toArray]; exact vals_get HOL.out)
              have hfwi : (fw : Int) < 4 := by omega
              clear i5 g5 f5
              go_upto_region 17 with fail
              (try rw [hW5])
              clear hW5 r0 r1 r2 r3
              by_cases hd : dn = true
              · subst hd
                by_cases he : er = 0
                · subst he
                  by_cases ho1 : o = 1
                  · subst ho1
                    have HNO := Lib.hid (show ¬ (true = true ∧ (0 : Nat) = 0 ∧ (1 : Nat) ≠ 1) by simp)
                    have e9 : (s'.ver : Int) = (s.ver : Int) := by have h9 := HSV.out; rw [HUP.out] at h9; rw [if_neg HNO.out] at h9; omega
                    have VR3 := Lib.hid (fun u (x : Ext w5 u) => sin_version w u F5 gx (1 + k + 1) s' (I5.out.ext x) (by omega))
                    rw [e9] at VR3
                    clear e9
                    go_wp2_with fail
                    refine (VR3.out W5 X5.out).mono ?_
                    rintro e w6 ⟨rfl, x6⟩
                    have H6 := Lib.hid (show VersAt w gx w2.heap.size (k + 1) w6 from ⟨F5, s', l, (I5.out.ext (X5.out.trans x6)).more (by omega), N5.out, Hab.out, blk_ext (blk_ext AB5.out X5.out) x6, HOPS'.out⟩)
                    clear x6
                    go_wp2_with fail
                    go_roundw
                    case rel => exact ⟨k + 1, hlt, h300, by go_num, H6.out⟩
                    case measure => simp [intOf]; omega
                  · have HYES := Lib.hid (show (true = true ∧ (0 : Nat) = 0 ∧ o ≠ 1) from ⟨rfl, rfl, ho1⟩)
                    have ho2 : ((o : Int) == 1) = false := by simpa using (by omega : (o : Int) ≠ 1)
                    have hadd1 : IntKind.i64.wrap ((s.ver : Int) + 1) = (s.ver : Int) + 1 := by have := HI.out.ver; rw [IntKind.wrap_i64]; omega
                    have e9 : (s'.ver : Int) = (s.ver : Int) + 1 := by have h9 := HSV.out; rw [HUP.out] at h9; rw [if_pos HYES.out] at h9; omega
                    have VR3 := Lib.hid (fun u (x : Ext w5 u) => sin_version w u F5 gx (1 + k + 1) s' (I5.out.ext x) (by omega))
                    rw [e9] at VR3
                    clear e9
                    go_wp2_with fail
                    refine (VR3.out W5 X5.out).mono ?_
                    rintro e w6 ⟨rfl, x6⟩
                    have H6 := Lib.hid (show VersAt w gx w2.heap.size (k + 1) w6 from ⟨F5, s', l, (I5.out.ext (X5.out.trans x6)).more (by omega), N5.out, Hab.out, blk_ext (blk_ext AB5.out X5.out) x6, HOPS'.out⟩)
                    clear x6
                    go_wp2_with fail
                    go_roundw
                    case rel => exact ⟨k + 1, hlt, h300, by go_num, H6.out⟩
                    case measure => simp [intOf]; omega
                · have HNO := Lib.hid (show ¬ (true = true ∧ er = 0 ∧ o ≠ 1) from fun h => he h.2.1)
                  have he2 : ((er : Int) == 0) = false := by simpa using (by omega : (er : Int) ≠ 0)
                  have e9 : (s'.ver : Int) = (s.ver : Int) := by have h9 := HSV.out; rw [HUP.out] at h9; rw [if_neg HNO.out] at h9; omega
                  have VR3 := Lib.hid (fun u (x : Ext w5 u) => sin_version w u F5 gx (1 + k + 1) s' (I5.out.ext x) (by omega))
                  rw [e9] at VR3
                  clear e9
                  go_wp2_with fail
                  refine (VR3.out W5 X5.out).mono ?_
                  rintro e w6 ⟨rfl, x6⟩
                  have H6 := Lib.hid (show VersAt w gx w2.heap.size (k + 1) w6 from ⟨F5, s', l, (I5.out.ext (X5.out.trans x6)).more (by omega), N5.out, Hab.out, blk_ext (blk_ext AB5.out X5.out) x6, HOPS'.out⟩)
                  clear x6
                  go_wp2_with fail
                  go_roundw
                  case rel => exact ⟨k + 1, hlt, h300, by go_num, H6.out⟩
                  case measure => simp [intOf]; omega
              · obtain rfl : dn = false := by simpa using hd
                have HNO := Lib.hid (show ¬ (false = true ∧ er = 0 ∧ o ≠ 1) by simp)
                have e9 : (s'.ver : Int) = (s.ver : Int) := by have h9 := HSV.out; rw [HUP.out] at h9; rw [if_neg HNO.out] at h9; omega
                have VR3 := Lib.hid (fun u (x : Ext w5 u) => sin_version w u F5 gx (1 + k + 1) s' (I5.out.ext x) (by omega))
                rw [e9] at VR3
                clear e9
                go_wp2_with fail
                refine (VR3.out W5 X5.out).mono ?_
                rintro e w6 ⟨rfl, x6⟩
                have H6 := Lib.hid (show VersAt w gx w2.heap.size (k + 1) w6 from ⟨F5, s', l, (I5.out.ext (X5.out.trans x6)).more (by omega), N5.out, Hab.out, blk_ext (blk_ext AB5.out X5.out) x6, HOPS'.out⟩)
                clear x6
                go_wp2_with fail
                go_roundw
                case rel => exact ⟨k + 1, hlt, h300, by go_num, H6.out⟩
                case measure => simp [intOf]; omega
          · have hfo1 : ((fo : Int) == 0) = false := by simpa using (by omega : (fo : Int) ≠ 0)
            have ST := Lib.hid (fun u (x : Ext wr u) (hr : Rd u K3 (vals .u8 (key.take 3))) => sin_start w u F gx (1 + k) fw fo (key.take 3) fv s K3 m3 c3 (HI.out.ext x) (by omega) (by omega) hfo (fun _ => Hfv2.out) Hm3.out hb3 hr)
            rw [start3 hkl3] at ST
            unfold startStS at ST
            rw [start3 hkl3] at ST
            have VR2 := Lib.hid (fun u (x : Ext wr u) => sin_version w u F gx (1 + k) s (HI.out.ext x) (by omega))
            have HRV4 := Lib.hid (HRV.out.ext x4)
            by_cases hi : idleS (s.call fw) = false
            · rw [if_pos hi, if_neg (by decide)] at ST
              go_wp2_with fail
              refine (ST.out w4 X4.out HRV4.out).mono ?_
              rintro e w5 ⟨rfl, F5, i5, g5, f5⟩
              have I5 := Lib.hid i5
              have AB5 := Lib.hid (g5.blk hab4 HNAB.out)
              have N5 := Lib.hid (show ¬ F5 w2.heap.size from fun e => (f5 _ e).elim HNAB.out (fun h => by omega))
              have VR3 := Lib.hid (fun u (x : Ext w5 u) => sin_version w u F5 gx (1 + k) s (I5.out.ext x) (by omega))
              clear i5 g5 f5 r0 r1 r2 r3
              go_wp2_with fail
              refine (VR3.out w5 (Ext.refl w5)).mono ?_
              rintro e w6 ⟨rfl, x6⟩
              have H6 := Lib.hid (show VersAt w gx w2.heap.size (k + 1) w6 from ⟨F5, s, l, (I5.out.ext x6).more (by omega), N5.out, Hab.out, blk_ext AB5.out x6, HOPS.out⟩)
              clear x6
              go_wp2_with fail
              go_roundw
              case rel => exact ⟨k + 1, hlt, h300, by go_num, H6.out⟩
              case measure => simp [intOf]; omega
            · rw [if_neg hi, if_pos rfl] at ST
              go_wp2_with fail
              refine (ST.out w4 X4.out HRV4.out).mono ?_
              rintro e w5 ⟨rfl, F5, i5, g5, f5⟩
              have I5 := Lib.hid i5
              have KP5 := Lib.hid (g5.blk KV4.out hnp)
              have AB5 := Lib.hid (g5.blk hab4 HNAB.out)
              have N5 := Lib.hid (show ¬ F5 w2.heap.size from fun e => (f5 _ e).elim HNAB.out (fun h => by omega))
              have y0 : w5.cell? ⟨wr.heap.size, 0, none⟩ = some (.int .i64 (fw : Int)) := blk_cell KP5.out 0
              have y1 : w5.cell? ⟨wr.heap.size, 1, none⟩ = some (.int .u8 (fo : Int)) := blk_cell KP5.out 1
              obtain ⟨o0, ho0⟩ : ∃ x, l[fw]? = some x := ⟨_, List.getElem?_eq_getElem (by rw [HOPS.out.1]; exact hfw)⟩
              have y2 : w5.cell? ⟨w2.heap.size, fw, none⟩ = some (.int .u8 (o0 : Int)) := (blk_cell AB5.out fw).trans (by rw [List.getElem?_toArray]; exact vals_get ho0)
              have y3 := blk_frozen AB5.out fw
              have hfwi : (fw : Int) < 4 := by omega
              have gs : GB w5 (w5.setCell ⟨w2.heap.size, fw, none⟩ (.int .u8 (fo : Int))) (· = w2.heap.size) := (GB.refl w5 (· = w2.heap.size)).set w2.heap.size fw _ (.inl rfl)
              have I6 := Lib.hid (I5.out.gb gs (fun i hi e => N5.out (e ▸ hi)) (fun i e => e ▸ Hab.out))
              have AB6 := Lib.hid (show (w5.setCell ⟨w2.heap.size, fw, none⟩ (.int .u8 (fo : Int))).heap[w2.heap.size]? = some (.cells (vals .u8 (l.set fw fo)).toArray 40 (0, 0)) by rw [vals_set]; refine (blk_set AB5.out fw _).trans ?_; rw [List.setIfInBounds_toArray])
              have OP6 := Lib.hid (ops_start (op := fo) (key := key.take 3) (val := fv) HOPS.out hfw)
              obtain ⟨W6, hW6⟩ : ∃ W6, w5.setCell ⟨w2.heap.size, fw, none⟩ (.int .u8 (fo : Int)) = W6 := ⟨_, rfl⟩
              rw [hW6] at I6 AB6
              have VR3 := Lib.hid (fun u (x : Ext W6 u) => sin_version w u F5 gx (1 + k) (s.put fw (.begun fo (key.take 3) fv)) (I6.out.ext x) (by omega))
              clear i5 g5 f5 r0 r1 r2 r3 gs ho0
              go_upto_region 21 with fail
              (try rw [hW6])
              clear hW6 y0 y1 y2 y3
              go_wp2_with fail
              refine (VR3.out W6 (Ext.refl W6)).mono ?_
              rintro e w6 ⟨rfl, x6⟩
              have H6 := Lib.hid (show VersAt w gx w2.heap.size (k + 1) w6 from ⟨F5, _, _, (I6.out.ext x6).more (by omega), N5.out, Hab.out, blk_ext AB6.out x6, OP6.out⟩)
              have e9 : (s.put fw (.begun fo (key.take 3) fv)).ver = s.ver := rfl
              rw [e9]
              clear x6 e9
              go_wp2_with fail
              go_roundw
              case rel => exact ⟨k + 1, hlt, h300, by go_num, H6.out⟩
              case measure => simp [intOf]; omega
        · go_wp2_with fail
          go_meet
          exact HI.out.out.alloc _
      · have HX := Lib.hid hI.out
        clear hI
        go_wp2_with fail
        go_meet
        exact HX.out
  case rest =>
    go_wp2_with fail
    go_ret
    exact retTrue hcut
end Go.Proofs.Ytlgggeeflomelaa
