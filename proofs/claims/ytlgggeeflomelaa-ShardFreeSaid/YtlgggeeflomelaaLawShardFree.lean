/- ShardFree answers true. -/
import Derived.Test.YtlgggeeflomelaaShN
import Derived.Deep.CutBlock
namespace Go.Proofs.Ytlgggeeflomelaa
open Go.RowKit

theorem pick_wf2 {a : Int} (h : (Lit.int .i64 a).wf = true) : -9223372036854775808 ≤ a ∧ a ≤ 9223372036854775807 := by
  simp [Lit.wf, IntKind.min, IntKind.max, IntKind.signed, IntKind.bits] at h
  omega
theorem start3F {s : SSt} {who : Nat} {key : List Nat} (h : (key.take 3).length ≤ 3) : startErrS s who (key.take 3) = if idleS (s.call who) = false then 9 else 0 := by
  unfold startErrS
  rw [if_neg (by omega)]
/-- what ShardFree keeps from round to round -/
def FreeAt (w0 : World) (gx W q k : Nat) (w : World) : Prop := ∃ F s, ShIn w0 F gx (1 + k) s w ∧ q + sumL s W ≤ 2 * W
set_option maxHeartbeats 16000000 in
set_option maxRecDepth 100000 in
theorem shardFree_walk (w : World) (n0 : Nat) (hn0 : n0 < 256) (A : Option Addr) (m c : Nat) (R : List PickR) (hl : R.length = m) (hk : ∀ r ∈ R, PickOk w r) (hr : Rd w A (R.flatMap pickVals)) (_hnc : m ≤ c) (_hz : m ≤ 2932031007317) :
    Calls Try.prog 8 #[.int .u8 (n0 : Int), .slice A m c] w (RetTrue w) := by
  have Hl := Lib.hid hl; have Hk := Lib.hid hk; have Hr := Lib.hid hr
  clear hl hk hr
  obtain ⟨N, hN⟩ : ∃ N, 1 + n0 % 6 = N := ⟨_, rfl⟩
  have hN6 : N ≤ 6 := by omega
  have hN1 : 1 ≤ N := by omega
  have hNi : (1 : Int) + (n0 : Int) % 6 = (N : Int) := by omega
  clear hN
  go_enter Try.func8, Try.ntmps8
  go_wp2_with fail
  refine (shAwake w).mono ?_
  rintro e w1 ⟨rfl, hx1⟩
  go_wp2_with fail
  refine (sin_new w w1 hx1).mono ?_
  rintro e w2 ⟨gx, F2, rfl, h2, _, _⟩
  have H2 := Lib.hid (show FreeAt w gx N 0 0 w2 from ⟨F2, sInit, h2, by have := sumL_le sInit N; omega⟩)
  clear h2
  go_upto_block 0 with fail
  go_cut [] (fun wd => Ext w wd)
  case first =>
    go_wp2_with fail
    go_loopw [7, 22] (fun q i wr => ∃ (k qn : Nat), k ≤ m ∧ k ≤ 300 ∧ i = .int .i64 (k : Int) ∧ q = .int .i64 (qn : Int) ∧ FreeAt w gx N qn k wr) (fun _ i _ => m - (intOf i).toNat)
    case atStart => exact ⟨0, 0, Nat.zero_le _, by omega, rfl, rfl, H2.out⟩
    case round =>
      obtain ⟨k, qn, hk, hk2, rfl, rfl, F, s, hI, hq⟩ := hrel
      have HI := Lib.hid hI; have HQ := Lib.hid hq
      clear hq
      by_cases hlt : k < m
      · obtain ⟨r, hr⟩ : ∃ r, R[k]? = some r := ⟨_, List.getElem?_eq_getElem (by rw [Hl.out]; exact hlt)⟩
        have hok := Hk.out r (List.mem_of_getElem? hr)
        obtain ⟨b, off, hA, c0, c1, c2, c3⟩ := pick_cells (Hr.out.ext hI.out) hr
        obtain ⟨who, op, K, kc, key, val⟩ := r
        dsimp only at c0 c1 c2 c3
        obtain ⟨hw1, hop, hkb, hkl, hkc, hkr, hw2⟩ := hok
        dsimp only at hw1 hop hkb hkl hkc hkr hw2
        subst hA
        obtain ⟨n, hn⟩ : ∃ n, key.length = n := ⟨_, rfl⟩
        rw [hn] at c2 hkl
        by_cases h300 : k < 300
        · have FT := Lib.hid (fun (u : World) => fit_any u who val op n kc (min n 3) K key (pick_wf2 hw2).2 hop hn hkl (by unfold maxLen at hkc; omega) rfl)
          have HKB := Lib.hid hkb; have HKR := Lib.hid hkr
          have hqle : qn ≤ 12 := by have := HQ.out; omega
          clear hr hI hw1 hkb hkr hw2 hn hkc hkl
          have h300' : ¬ (300 : Int) ≤ (k : Int) := by omega
          obtain ⟨W, hW⟩ : ∃ W, wr.alloc (.cells #[.int .i64 who, .int .u8 (op : Int), .slice K n kc, .int .i64 val] 70) = W := ⟨_, rfl⟩
          have xW : Ext wr W := by rw [← hW]; exact (Ext.refl wr).alloc _
          have KP := Lib.hid (show W.heap[wr.heap.size]? = some (.cells #[.int .i64 who, .int .u8 (op : Int), .slice K n kc, .int .i64 val] 70 (0, 0)) by rw [← hW]; exact blk_new wr _)
          have XW := Lib.hid xW
          clear xW
          go_upto_region 10 with fail
          (try rw [hW])
          clear hW c0 c1 c2 c3
          have p0 : W.cell? ⟨wr.heap.size, 0, none⟩ = some (.int .i64 who) := blk_cell KP.out 0
          have p1 : W.cell? ⟨wr.heap.size, 1, none⟩ = some (.int .u8 (op : Int)) := blk_cell KP.out 1
          have p2 : W.cell? ⟨wr.heap.size, 2, none⟩ = some (.slice K n kc) := blk_cell KP.out 2
          have p3 : W.cell? ⟨wr.heap.size, 3, none⟩ = some (.int .i64 val) := blk_cell KP.out 3
          go_wp2_with fail
          refine (FT.out W).mono ?_
          rintro e w3 ⟨K3, c3, m3, rfl, hm3, hr3, x3⟩
          dsimp only at hm3 hr3
          subst hr3
          have hfo := fitOp_le op
          have hfv := fitVal_ok val
          have hm3' : m3 ≤ 3 := by rw [← hm3, List.length_take]; omega
          obtain ⟨fw, Hfw⟩ : ∃ x, Hid (fitWho who = x) := ⟨_, rfl⟩
          obtain ⟨fo, Hfo⟩ : ∃ x, Hid (fitOp op = x) := ⟨_, rfl⟩
          obtain ⟨fv, Hfv⟩ : ∃ x : Nat, Hid (fitVal val = (x : Int)) := ⟨(fitVal val).toNat, show fitVal val = _ by omega⟩
          dsimp only
          rw [Hfw.out]
          rw [Hfo.out] at hfo ⊢
          rw [Hfv.out] at hfv ⊢
          have KP3 := Lib.hid (blk_ext KP.out x3)
          have s0 := blk_cell KP3.out 0; have s1 := blk_cell KP3.out 1; have s2 := blk_cell KP3.out 2; have s3 := blk_cell KP3.out 3
          have z0 := blk_frozen KP3.out 0; have z1 := blk_frozen KP3.out 1; have z2 := blk_frozen KP3.out 2; have z3 := blk_frozen KP3.out 3
          obtain ⟨V, hV⟩ : ∃ V, ((((w3.setCell ⟨wr.heap.size, 0, none⟩ (.int .i64 (fw : Int))).setCell ⟨wr.heap.size, 1, none⟩ (.int .u8 (fo : Int))).setCell ⟨wr.heap.size, 2, none⟩ (.slice K3 m3 c3)).setCell ⟨wr.heap.size, 3, none⟩ (.int .i64 (fv : Int))) = V := ⟨_, rfl⟩
          have KV := Lib.hid (show V.heap[wr.heap.size]? = some (.cells #[.int .i64 (fw : Int), .int .u8 (fo : Int), .slice K3 m3 c3, .int .i64 (fv : Int)] 70 (0, 0)) by rw [← hV]; exact row4 KP3.out _ _ _ _)
          have gV : GB w3 V (· = wr.heap.size) := by rw [← hV]; exact put4_gb w3 wr.heap.size _ _ _ _
          have XV := Lib.hid (show Ext wr V from gV.to_ext (XW.out.trans x3) (fun i e => by omega))
          have HRV := Lib.hid (show Rd V K3 (vals .u8 (key.take 3)) from (rd_take3 3 HKR.out).ext (HI.out.out.trans XV.out))
          have Hm3 := Lib.hid hm3; have Hfv2 := Lib.hid hfv
          clear hm3 x3 gV p0 p1 p2 p3 hk2
          go_upto_region 11 with fail
          (try rw [hV])
          clear hV s0 s1 s2 s3 z0 z1 z2 z3
          have q1 : V.cell? ⟨wr.heap.size, 1, none⟩ = some (.int .u8 (fo : Int)) := blk_cell KV.out 1
          have q2 : V.cell? ⟨wr.heap.size, 2, none⟩ = some (.slice K3 m3 c3) := blk_cell KV.out 2
          have q3 : V.cell? ⟨wr.heap.size, 3, none⟩ = some (.int .i64 (fv : Int)) := blk_cell KV.out 3
          have hkl3 : (key.take 3).length ≤ 3 := by rw [List.length_take]; omega
          have hb3 : ∀ x ∈ key.take 3, x < 256 := fun x hx => HKB.out x (List.mem_of_mem_take hx)
          obtain ⟨d, hd, hdN⟩ : ∃ d : Nat, (fv : Int) % (N : Int) = (d : Int) ∧ d < N := ⟨fv % N, by omega, Nat.mod_lt _ (by omega)⟩
          have hdx : wrap64 ((fv : Int) % (N : Int)) = (d : Int) := by rw [hd]; unfold wrap64; omega
          have HDX := Lib.hid hdx
          clear hd hdx
          go_upto_region 12 with fail
          rw [HDX.out]
          obtain ⟨o, ho, ho1, ho4⟩ : ∃ o : Nat, (1 : Int) + (fo : Int) % 4 = (o : Int) ∧ 1 ≤ o ∧ o ≤ 4 := ⟨1 + fo % 4, by omega, by omega, by omega⟩
          have PD := Lib.hid (sin_pend w V F gx (1 + k) d s (HI.out.ext XV.out) (by omega))
          by_cases hi : s.call d = .idle
          · have hp : idleS (s.call d) = true := (idleS_iff _).2 hi
            rw [hp] at PD
            have ST := Lib.hid (sin_start w V F gx (1 + k) d o (key.take 3) (fv : Int) s K3 m3 c3 (HI.out.ext XV.out) (by omega) ho1 ho4 (fun _ => Hfv2.out) Hm3.out hb3 HRV.out)
            rw [start3F hkl3] at ST
            unfold startStS at ST
            rw [start3F hkl3, hp, if_neg (by decide), if_pos rfl] at ST
            obtain ⟨t, ht⟩ : ∃ t, s.put d (.begun o (key.take 3) (fv : Int)) = t := ⟨_, rfl⟩
            have hti : t.call d ≠ .idle := by rw [← ht, sput_self]; simp
            have HQT := Lib.hid (show qn + sumL t N ≤ 2 * N by rw [← ht, free_start hi]; exact HQ.out)
            rw [ht] at ST
            clear ht hi hp hfv
            go_wp2_with fail
            refine PD.out.mono ?_
            rintro e w4 ⟨rfl, rfl⟩
            go_wp2_with fail
            refine ST.out.mono ?_
            rintro e w5 ⟨rfl, F5, i5, g5, f5⟩
            clear g5 f5 q1 q2 q3
            have SP := Lib.hid (sin_step w w5 F5 gx (1 + k) d t i5 (by omega) hti (by omega))
            have hfs := free_step hdN hti HQT.out
            obtain ⟨s', hs'⟩ : ∃ x, (sStep t d).1 = x := ⟨_, rfl⟩
            obtain ⟨dn, hdn⟩ : ∃ x, (sStep t d).2.done = x := ⟨_, rfl⟩
            obtain ⟨er, her⟩ : ∃ x, (sStep t d).2.err = x := ⟨_, rfl⟩
            obtain ⟨nu, hnu⟩ : ∃ x, (sStep t d).2.num = x := ⟨_, rfl⟩
            rw [hs', hdn] at hfs
            rw [hs', hdn, her, hnu] at SP
            have HFS := Lib.hid hfs
            clear hs' hdn her hnu hfs hti i5
            go_wp2_with fail
            refine SP.out.mono ?_
            rintro e w6 ⟨rfl, F6, i6, -, -⟩
            have I6 := Lib.hid i6
            clear i6
            cases dn with
            | true =>
              have H6 := Lib.hid (show FreeAt w gx N 0 (k + 1) (w6.alloc (.cells #[.bool true, .int .i64 (er : Int), .int .i64 nu] 74)) from ⟨F6, s', (I6.out.ext ((Ext.refl w6).alloc _)).more (by omega), by have := HFS.out; rw [if_pos rfl] at this; exact this⟩)
              go_wp2_with fail
              go_roundw
              case rel => exact ⟨k + 1, 0, hlt, h300, by go_num, rfl, H6.out⟩
              case measure => simp [intOf]; omega
            | false =>
              have hq2 := Lib.hid (show qn + 1 + sumL s' N ≤ 2 * N by have := HFS.out; rw [if_neg (by simp)] at this; exact this)
              have H6 := Lib.hid (show FreeAt w gx N (qn + 1) (k + 1) (w6.alloc (.cells #[.bool false, .int .i64 (er : Int), .int .i64 nu] 74)) from ⟨F6, s', (I6.out.ext ((Ext.refl w6).alloc _)).more (by omega), hq2.out⟩)
              have hq3 : ¬ 2 * (N : Int) < (qn : Int) + 1 := by have h1 := hq2.out; omega
              go_wp2_with fail
              go_roundw
              case rel => exact ⟨k + 1, qn + 1, hlt, h300, by go_num, by go_num, H6.out⟩
              case measure => simp [intOf]; omega
          · have hp : idleS (s.call d) = false := by
              cases hq : idleS (s.call d) with
              | false => rfl
              | true => exact absurd ((idleS_iff _).1 hq) hi
            rw [hp] at PD
            clear hp hfv
            go_wp2_with fail
            refine PD.out.mono ?_
            rintro e w4 ⟨rfl, rfl⟩
            clear q1 q2 q3
            have SP := Lib.hid (sin_step w V F gx (1 + k) d s (HI.out.ext XV.out) (by omega) hi (by omega))
            have hfs := free_step hdN hi HQ.out
            obtain ⟨s', hs'⟩ : ∃ x, (sStep s d).1 = x := ⟨_, rfl⟩
            obtain ⟨dn, hdn⟩ : ∃ x, (sStep s d).2.done = x := ⟨_, rfl⟩
            obtain ⟨er, her⟩ : ∃ x, (sStep s d).2.err = x := ⟨_, rfl⟩
            obtain ⟨nu, hnu⟩ : ∃ x, (sStep s d).2.num = x := ⟨_, rfl⟩
            rw [hs', hdn] at hfs
            rw [hs', hdn, her, hnu] at SP
            have HFS := Lib.hid hfs
            clear hs' hdn her hnu hfs hi
            go_wp2_with fail
            refine SP.out.mono ?_
            rintro e w6 ⟨rfl, F6, i6, -, -⟩
            have I6 := Lib.hid i6
            clear i6
            cases dn with
            | true =>
              have H6 := Lib.hid (show FreeAt w gx N 0 (k + 1) (w6.alloc (.cells #[.bool true, .int .i64 (er : Int), .int .i64 nu] 74)) from ⟨F6, s', (I6.out.ext ((Ext.refl w6).alloc _)).more (by omega), by have := HFS.out; rw [if_pos rfl] at this; exact this⟩)
              go_wp2_with fail
              go_roundw
              case rel => exact ⟨k + 1, 0, hlt, h300, by go_num, rfl, H6.out⟩
              case measure => simp [intOf]; omega
            | false =>
              have hq2 := Lib.hid (show qn + 1 + sumL s' N ≤ 2 * N by have := HFS.out; rw [if_neg (by simp)] at this; exact this)
              have H6 := Lib.hid (show FreeAt w gx N (qn + 1) (k + 1) (w6.alloc (.cells #[.bool false, .int .i64 (er : Int), .int .i64 nu] 74)) from ⟨F6, s', (I6.out.ext ((Ext.refl w6).alloc _)).more (by omega), hq2.out⟩)
              have hq3 : ¬ 2 * (N : Int) < (qn : Int) + 1 := by have h1 := hq2.out; omega
              go_wp2_with fail
              go_roundw
              case rel => exact ⟨k + 1, qn + 1, hlt, h300, by go_num, by go_num, H6.out⟩
              case measure => simp [intOf]; omega
        · go_wp2_with fail
          go_meet
          exact HI.out.out.alloc _
      · have HX := Lib.hid hI.out
        clear hI
        go_wp2_with fail
        go_meet
        exact HX.out
  case rest =>
    go_wp2_with fail
    go_ret
    exact retTrue hcut
end Go.Proofs.Ytlgggeeflomelaa
