/- ShardAtOnce answers true. Printed by gen_atonce.py. -/
import Derived.Test.YtlgggeeflomelaaShU
import Derived.Deep.CutBlock
namespace Go.Proofs.Ytlgggeeflomelaa
open Go.RowKit

theorem pick_wfO {a : Int} (h : (Lit.int .i64 a).wf = true) : -9223372036854775808 ≤ a ∧ a ≤ 9223372036854775807 := by
  simp [Lit.wf, IntKind.min, IntKind.max, IntKind.signed, IntKind.bits] at h
  omega
theorem start3O {s : SSt} {who : Nat} {key : List Nat} (h : (key.take 3).length ≤ 3) : startErrS s who (key.take 3) = if idleS (s.call who) = false then 9 else 0 := by
  unfold startErrS
  rw [if_neg (by omega)]
theorem once_init {w w2 : World} {F : Nat → Prop} {gx : Nat} (h : ShIn w F gx 1 sInit w2) (o : Array Value) (t : TypeId) (ho : o.size = 16) : OnceAt w gx w2.heap.size 0 (.slice none 0 0) (w2.alloc (.cells o t)) :=
  ⟨F, sInit, none, 0, 0, rfl, rfl, h.ext ((Ext.refl w2).alloc _), fun e => Nat.lt_irrefl _ (h.lt _ e), h.out.size, Nat.le_refl _, ⟨⟨o, t, blk_new w2 _, ho⟩, fun d _ op key val ha => by cases ha⟩, [], EntRd.nil _, (fun p hp => by cases hp), fun a ha => by cases ha⟩
theorem put4_gbO (w : World) (g i : Nat) (a b c d : Value) : GB w ((((w.setCell ⟨g, i, none⟩ a).setCell ⟨g, i + 1, none⟩ b).setCell ⟨g, i + 2, none⟩ c).setCell ⟨g, i + 3, none⟩ d) (· = g) := ((((GB.refl w (· = g)).set g i a (.inl rfl)).set g (i + 1) b (.inl rfl)).set g (i + 2) c (.inl rfl)).set g (i + 3) d (.inl rfl)
set_option maxHeartbeats 16000000 in
set_option maxRecDepth 100000 in
theorem shardAtOnce_walk (w : World) (A : Option Addr) (m c : Nat) (R : List PickR) (hl : R.length = m) (hk : ∀ r ∈ R, PickOk w r) (hr : Rd w A (R.flatMap pickVals)) (_hnc : m ≤ c) (_hz : m ≤ 2932031007317) :
    Calls Try.prog 12 #[.slice A m c] w (RetTrue w) := by
  have Hl := Lib.hid hl; have Hk := Lib.hid hk; have Hr := Lib.hid hr
  clear hl hk hr
  go_enter Try.func12, Try.ntmps12
  go_wp2_with fail
  refine (shAwake w).mono ?_
  rintro e w1 ⟨rfl, hx1⟩
  go_wp2_with fail
  refine (sin_new w w1 hx1).mono ?_
  rintro e w2 ⟨gx, F2, rfl, h2, _, _⟩
  have H2 := Lib.hid (fun o t ho => once_init h2 o t ho)
  clear h2
  go_upto_block 0 with fail
  go_cut [] (fun wd => Ext w wd)
  case first =>
    go_wp2_with fail
    go_loopw [4, 17] (fun v4 i wr => ∃ k : Nat, k ≤ m ∧ k ≤ 300 ∧ i = .int .i64 (k : Int) ∧ OnceAt w gx w2.heap.size k v4 wr) (fun _ i _ => m - (intOf i).toNat)
    case atStart => exact ⟨0, Nat.zero_le _, by omega, rfl, H2.out _ _ rfl⟩
    case round =>
      obtain ⟨k, hk, hk2, rfl, F, s, LA, ln, lc, rfl, hln, hI, hnab, hab, hlk, hca, hla⟩ := hrel
      have HI := Lib.hid hI; have HCA := Lib.hid hca; have HLA := Lib.hid hla; have HNAB := Lib.hid hnab; have Hln := Lib.hid hln
      clear hca hla hnab hln
      by_cases hlt : k < m
      · obtain ⟨r, hr⟩ : ∃ r, R[k]? = some r := ⟨_, List.getElem?_eq_getElem (by rw [Hl.out]; exact hlt)⟩
        have hok := Hk.out r (List.mem_of_getElem? hr)
        obtain ⟨b, off, hA, c0, c1, c2, c3⟩ := pick_cells (Hr.out.ext hI.out) hr
        obtain ⟨who, op, K, kc, key, val⟩ := r
        dsimp only at c0 c1 c2 c3
        obtain ⟨hw1, hop, hkb, hkl, hkc, hkr, hw2⟩ := hok
        dsimp only at hw1 hop hkb hkl hkc hkr hw2
        subst hA
        obtain ⟨n, hn⟩ : ∃ n, key.length = n := ⟨_, rfl⟩
        rw [hn] at c2 hkl
        by_cases h300 : k < 300
        · have FT := Lib.hid (fun (u : World) => fit_any2 u who val op n kc (min n 3) K key (pick_wfO hw2).2 hop hn hkl (by unfold maxLen at hkc; omega) rfl)
          have HKB := Lib.hid hkb; have HKR := Lib.hid hkr; have HKL := Lib.hid (show (key.take 3).length ≤ kc by rw [List.length_take]; omega)
          have hab2 : w2.heap.size < wr.heap.size := by obtain ⟨⟨cs, t, h1, h2⟩, -⟩ := HCA.out; exact blk_lt h1
          have Hab := Lib.hid hab
          clear hr hI hw1 hkb hkr hw2 hn hkc hkl hab
          have h300' : ¬ (300 : Int) ≤ (k : Int) := by omega
          obtain ⟨W, hW⟩ : ∃ W, wr.alloc (.cells #[.int .i64 who, .int .u8 (op : Int), .slice K n kc, .int .i64 val] 70) = W := ⟨_, rfl⟩
          have xW : Ext wr W := by rw [← hW]; exact (Ext.refl wr).alloc _
          have KP := Lib.hid (show W.heap[wr.heap.size]? = some (.cells #[.int .i64 who, .int .u8 (op : Int), .slice K n kc, .int .i64 val] 70 (0, 0)) by rw [← hW]; exact blk_new wr _)
          have XW := Lib.hid xW
          clear xW
          go_upto_region 10 with fail
          (try rw [hW])
          clear hW c0 c1 c2 c3
          have p0 : W.cell? ⟨wr.heap.size, 0, none⟩ = some (.int .i64 who) := blk_cell KP.out 0
          have p1 : W.cell? ⟨wr.heap.size, 1, none⟩ = some (.int .u8 (op : Int)) := blk_cell KP.out 1
          have p2 : W.cell? ⟨wr.heap.size, 2, none⟩ = some (.slice K n kc) := blk_cell KP.out 2
          have p3 : W.cell? ⟨wr.heap.size, 3, none⟩ = some (.int .i64 val) := blk_cell KP.out 3
          go_wp2_with fail
          refine (FT.out W).mono ?_
          rintro e w3 ⟨K3, c3, m3, rfl, hm3, hr3, x3, hc3⟩
          dsimp only at hm3 hr3 hc3
          subst hr3 hc3
          have hfw := fitWho_lt who
          have hfo := fitOp_le op
          have hfv := fitVal_ok val
          have hm3' : m3 ≤ 3 := by rw [← hm3, List.length_take]; omega
          obtain ⟨fw, Hfw⟩ : ∃ x, Hid (fitWho who = x) := ⟨_, rfl⟩
          obtain ⟨fo, Hfo⟩ : ∃ x, Hid (fitOp op = x) := ⟨_, rfl⟩
          obtain ⟨fv, Hfv⟩ : ∃ x, Hid (fitVal val = x) := ⟨_, rfl⟩
          dsimp only
          rw [Hfw.out] at hfw ⊢
          rw [Hfo.out] at hfo ⊢
          rw [Hfv.out] at hfv ⊢
          have KP3 := Lib.hid (blk_ext KP.out x3)
          have s0 := blk_cell KP3.out 0; have s1 := blk_cell KP3.out 1; have s2 := blk_cell KP3.out 2; have s3 := blk_cell KP3.out 3
          have z0 := blk_frozen KP3.out 0; have z1 := blk_frozen KP3.out 1; have z2 := blk_frozen KP3.out 2; have z3 := blk_frozen KP3.out 3
          obtain ⟨V, hV⟩ : ∃ V, ((((w3.setCell ⟨wr.heap.size, 0, none⟩ (.int .i64 (fw : Int))).setCell ⟨wr.heap.size, 1, none⟩ (.int .u8 (fo : Int))).setCell ⟨wr.heap.size, 2, none⟩ (.slice K3 m3 c3)).setCell ⟨wr.heap.size, 3, none⟩ (.int .i64 fv)) = V := ⟨_, rfl⟩
          have KV := Lib.hid (show V.heap[wr.heap.size]? = some (.cells #[.int .i64 (fw : Int), .int .u8 (fo : Int), .slice K3 m3 c3, .int .i64 fv] 70 (0, 0)) by rw [← hV]; exact row4 KP3.out _ _ _ _)
          have gV : GB w3 V (· = wr.heap.size) := by rw [← hV]; exact put4_gb w3 wr.heap.size _ _ _ _
          have XV := Lib.hid (show Ext wr V from gV.to_ext (XW.out.trans x3) (fun i e => by omega))
          have HRV := Lib.hid (show Rd V K3 (vals .u8 (key.take 3)) from (rd_take3 3 HKR.out).ext (HI.out.out.trans XV.out))
          have Hm3 := Lib.hid hm3; have Hfv2 := Lib.hid hfv
          clear hm3 x3 gV p0 p1 p2 p3 hfv hk2
          go_upto_region 11 with fail
          (try rw [hV])
          clear hV s0 s1 s2 s3 z0 z1 z2 z3
          have q0 : V.cell? ⟨wr.heap.size, 0, none⟩ = some (.int .i64 (fw : Int)) := blk_cell KV.out 0
          have q1 : V.cell? ⟨wr.heap.size, 1, none⟩ = some (.int .u8 (fo : Int)) := blk_cell KV.out 1
          have q2 : V.cell? ⟨wr.heap.size, 2, none⟩ = some (.slice K3 m3 c3) := blk_cell KV.out 2
          have q3 : V.cell? ⟨wr.heap.size, 3, none⟩ = some (.int .i64 fv) := blk_cell KV.out 3
          have hkl3 : (key.take 3).length ≤ 3 := by rw [List.length_take]; omega
          have hb3 : ∀ x ∈ key.take 3, x < 256 := fun x hx => HKB.out x (List.mem_of_mem_take hx)
          have hpb : wr.heap.size < V.heap.size := blk_lt KV.out
          have hnp : ¬ F wr.heap.size := fun e => Nat.lt_irrefl _ (HI.out.lt _ e)
          have hfwi : (fw : Int) < 4 := by omega
          have IV := Lib.hid (HI.out.ext XV.out)
          have CAV := Lib.hid (HCA.out.gb (GB.of_ext (fun _ => False) XV.out) (fun e => e))
          have LAV := Lib.hid (HLA.out.gb IV.out.out (GB.of_ext (fun _ => False) XV.out) (fun _ e => e.elim) (fun _ e => .inl e))
          have PD := Lib.hid (sin_pend w V F gx (1 + k) fw s IV.out (by omega))
          by_cases hz : fo = 0
          · subst hz
            by_cases hi : s.call fw = .idle
            · have hp : idleS (s.call fw) = true := (idleS_iff _).2 hi
              rw [hp] at PD
              clear hp
              go_wp2_with fail
              refine PD.out.mono ?_
              rintro e w5 ⟨rfl, rfl⟩
              go_wp2_with fail
              go_roundw
              case rel => exact ⟨k + 1, hlt, h300, by go_num, F, s, LA, ln, lc, rfl, Hln.out, IV.out.more (by omega), HNAB.out, Hab.out, by omega, CAV.out, LAV.out⟩
              case measure => simp [intOf]; omega
            · have hp : idleS (s.call fw) = false := by
                cases hq : idleS (s.call fw) with
                | false => rfl
                | true => exact absurd ((idleS_iff _).1 hq) hi
              rw [hp] at PD
              clear hp
              have SP := Lib.hid (sin_step w V F gx (1 + k) fw s IV.out (by omega) hi (by omega))
              obtain ⟨ask, hask⟩ : ∃ a, (s.call fw).ask = some a := by
                cases h9 : (s.call fw).ask with
                | none => exact absurd (ask_idle h9) hi
                | some a => exact ⟨a, rfl⟩
              obtain ⟨aop, akey, aval⟩ := ask
              have hon := once_step IV.out.inv (by rw [Hln.out]; omega) hask
              have hle := len_step (d := fw) IV.out.inv
              rw [Hln.out] at hle
              have hca' := (CAV.out).step fw
              obtain ⟨awho, aK, akc, a0, a1, a2, a3, hakc, hakr, hask2⟩ := CAV.out.2 fw hfw aop akey aval hask
              have ISV := Lib.hid (sinv_step (who := fw) IV.out.inv)
              obtain ⟨s', hs'⟩ : ∃ x, (sStep s fw).1 = x := ⟨_, rfl⟩
              obtain ⟨dn, hdn⟩ : ∃ x, (sStep s fw).2.done = x := ⟨_, rfl⟩
              obtain ⟨er, her⟩ : ∃ x, (sStep s fw).2.err = x := ⟨_, rfl⟩
              obtain ⟨nu, hnu⟩ : ∃ x, (sStep s fw).2.num = x := ⟨_, rfl⟩
              unfold OnceP at hon
              rw [hs'] at hca' hle ISV SP
              rw [hs', hdn, her, hnu] at hon
              rw [hdn, her, hnu] at SP
              obtain ⟨am, Ham⟩ : ∃ x, Hid (akey.length = x) := ⟨_, rfl⟩
              rw [Ham.out] at a2 hakc
              have HON := Lib.hid hon; have HCA' := Lib.hid hca'; have HAKR := Lib.hid hakr; have HASK2 := Lib.hid hask2
              clear hs' hdn her hnu hon hca' hask hakr hask2 hi
              go_wp2_with fail
              refine PD.out.mono ?_
              rintro e w5 ⟨rfl, rfl⟩
              go_wp2_with fail
              refine SP.out.mono ?_
              rintro e w5 ⟨rfl, F5, i5, g5, f5⟩
              have hnab5 : ¬ F5 w2.heap.size := fun e => (f5 _ e).elim HNAB.out (fun h => by omega)
              have N5 := Lib.hid hnab5
              have KP5 := Lib.hid (g5.blk KV.out hnp)
              have CA5 := Lib.hid (HCA'.out.gb g5 HNAB.out)
              have LA5 := Lib.hid (LAV.out.gb i5.out g5 (fun _ e => .inl e) (fun i hi => f5 i hi))
              have I5 := Lib.hid i5
              have d0 := g5.cell a0 HNAB.out; have d1 := g5.cell a1 HNAB.out; have d2 := g5.cell a2 HNAB.out; have d3 := g5.cell a3 HNAB.out
              clear i5 g5 f5 q0 q1 q2 q3 a0 a1 a2 a3 hnab5
              obtain ⟨W5, hW5⟩ : ∃ W5, w5.alloc (.cells #[.bool dn, .int .i64 (er : Int), .int .i64 nu] 74) = W5 := ⟨_, rfl⟩
              have X5 := Lib.hid (show Ext w5 W5 by rw [← hW5]; exact (Ext.refl w5).alloc _)
              have KR5 := Lib.hid (show W5.heap[w5.heap.size]? = some (.cells #[.bool dn, .int .i64 (er : Int), .int .i64 nu] 74 (0, 0)) by rw [← hW5]; exact blk_new w5 _)
              go_upto_region 20 with fail
              (try rw [hW5])
              clear hW5
              have y0 : W5.cell? ⟨w5.heap.size, 0, none⟩ = some (.bool dn) := blk_cell KR5.out 0
              have y1 : W5.cell? ⟨w5.heap.size, 1, none⟩ = some (.int .i64 (er : Int)) := blk_cell KR5.out 1
              have y2 : W5.cell? ⟨w5.heap.size, 2, none⟩ = some (.int .i64 nu) := blk_cell KR5.out 2
              have t0 : W5.cell? ⟨wr.heap.size, 0, none⟩ = some (.int .i64 (fw : Int)) := blk_cell (blk_ext KP5.out X5.out) 0
              have e0 := ext_cell X5.out d0; have e1 := ext_cell X5.out d1; have e2 := ext_cell X5.out d2; have e3 := ext_cell X5.out d3
              clear d0 d1 d2 d3
              have I6 := Lib.hid (I5.out.ext X5.out)
              have CA6 := Lib.hid (CA5.out.gb (GB.of_ext (fun _ => False) X5.out) (fun e => e))
              have LA6 := Lib.hid (LA5.out.gb I6.out.out (GB.of_ext (fun _ => False) X5.out) (fun _ e => e.elim) (fun _ e => .inl e))
              cases dn with
              | true =>
                have hd := HON.out.1 rfl
                obtain ⟨lks, le1, le2, le3⟩ := LA6.out
                have DN := Lib.hid (done_any W5 LA aK ln lc am akc aop awho aval s.lst lks akey Hln.out IV.out.inv.1 le1 Ham.out hakc HASK2.out (HAKR.out.ext I6.out.out) (fun q x => Rd w q.1 (vals .u8 x)) le2 HAKR.out)
                rw [hd] at DN
                obtain ⟨ln', Hln'⟩ : ∃ x, Hid (s'.lst.length = x) := ⟨_, rfl⟩
                have DN2 := Lib.hid (show Calls Try.prog 50 #[.slice LA ln lc, .agg #[.int .i64 awho, .int .u8 (aop : Int), .slice aK am akc, .int .i64 aval]] W5 (fun e w' => ∃ B c' kk, e = .returned (.tuple #[.slice B ln' c', .agg #[.bool true, .int .i64 (er : Int), .int .i64 nu]]) ∧ EntRd w' B s'.lst kk ∧ (∀ p ∈ kk.zip s'.lst, Rd w p.1.1 (vals .u8 p.2.1)) ∧ (∀ a, B = some a → LA = some a ∨ (W5.heap.size ≤ a.block ∧ a.block < w'.heap.size)) ∧ Ext W5 w') by rw [← Hln'.out]; exact DN.out)
                have HLE3 := Lib.hid le3
                clear hd le1 le2 le3 DN
                go_wp2_with fail
                refine DN2.out.mono ?_
                rintro e w7 ⟨LB, lc', lkk, rfl, m1, m2, m3', x7⟩
                have M1 := Lib.hid m1
                have LA7 := Lib.hid (show LstAt w w7 F5 w2.heap.size LB s'.lst from ⟨lkk, m1, m2, fun a ha => by
                  rcases m3' a ha with h | h
                  · obtain ⟨l1, l2, l3⟩ := HLE3.out a h
                    exact ⟨l1, l2, Nat.lt_of_lt_of_le l3 x7.size⟩
                  · have hsz := X5.out.size
                    have hsz2 : wr.heap.size < w5.heap.size := blk_lt KP5.out
                    exact ⟨fun e => by have := I6.out.lt _ e; omega, by omega, h.2⟩⟩)
                have X7 := Lib.hid x7
                have u0 : w7.cell? ⟨w5.heap.size, 0, none⟩ = some (.bool true) := ext_cell x7 y0
                have u1 := ext_cell x7 y1; have u2 := ext_cell x7 y2
                clear m1 m2 m3' x7 y0 y1 y2 t0 e0 e1 e2 e3
                obtain ⟨W7, hW7⟩ : ∃ W7, w7.alloc (.cells #[.bool true, .int .i64 (er : Int), .int .i64 nu] 74) = W7 := ⟨_, rfl⟩
                have X8 := Lib.hid (show Ext w7 W7 by rw [← hW7]; exact (Ext.refl w7).alloc _)
                have KR7 := Lib.hid (show W7.heap[w7.heap.size]? = some (.cells #[.bool true, .int .i64 (er : Int), .int .i64 nu] 74 (0, 0)) by rw [← hW7]; exact blk_new w7 _)
                go_upto_region 24 with fail
                (try rw [hW7])
                clear hW7
                have v0 : W7.cell? ⟨w7.heap.size, 0, none⟩ = some (.bool true) := blk_cell KR7.out 0
                have v1 : W7.cell? ⟨w7.heap.size, 1, none⟩ = some (.int .i64 (er : Int)) := blk_cell KR7.out 1
                have v2 : W7.cell? ⟨w7.heap.size, 2, none⟩ = some (.int .i64 nu) := blk_cell KR7.out 2
                have j0 := ext_cell X8.out u0; have j1 := ext_cell X8.out u1; have j2 := ext_cell X8.out u2
                clear u0 u1 u2
                have I8 := Lib.hid (I6.out.ext (X7.out.trans X8.out))
                have CA8 := Lib.hid (CA6.out.gb (GB.of_ext (fun _ => False) (X7.out.trans X8.out)) (fun e => e))
                have LA8 := Lib.hid (LA7.out.gb I8.out.out (GB.of_ext (fun _ => False) X8.out) (fun _ e => e.elim) (fun _ e => .inl e))
                have LE := Lib.hid (lentries_any w W7 F5 gx (1 + k + 1) s' I8.out)
                unfold LEntsR at LE
                rw [Hln'.out] at LE
                go_wp2_with fail
                refine LE.out.mono ?_
                rintro e w9 ⟨EA, ec, eks, rfl, hE9, x9⟩
                have LA9 := Lib.hid (LA8.out.gb (I8.out.out.trans x9) (GB.of_ext (fun _ => False) x9) (fun _ e => e.elim) (fun _ e => .inl e))
                obtain ⟨lk9, hl9, -, -⟩ := LA9.out
                have SM := Lib.hid (rsame_ok w9 EA LB ln' ec lc' s'.lst eks lk9 Hln'.out ISV.out.1 hE9 hl9)
                have X9 := Lib.hid x9
                clear hE9 x9 hl9
                go_wp2_with fail
                refine SM.out.mono ?_
                rintro e wz ⟨rfl, xz⟩
                have xx := X9.out.trans xz
                have CZ := Lib.hid (CA8.out.gb (GB.of_ext (fun _ => False) xx) (fun e => e))
                have IZ := Lib.hid (I8.out.ext xx)
                have LZ := Lib.hid (LA9.out.gb IZ.out.out (GB.of_ext (fun _ => False) xz) (fun _ e => e.elim) (fun _ e => .inl e))
                clear xx xz
                go_wp2_with fail
                go_roundw
                case rel => exact ⟨k + 1, hlt, h300, by go_num, F5, s', LB, ln', lc', rfl, Hln'.out, IZ.out.more (by omega), N5.out, Hab.out, by have := Hln'.out; omega, CZ.out, LZ.out⟩
                case measure => simp [intOf]; omega
              | false =>
                obtain ⟨hd1, hd2, hd3⟩ := HON.out.2 rfl
                subst hd2 hd3
                have Hln' := Lib.hid (show s'.lst.length = ln by rw [hd1]; exact Hln.out)
                have LA8 := Lib.hid (show LstAt w W5 F5 w2.heap.size LA s'.lst by rw [hd1]; exact LA6.out)
                clear hd1 t0 e0 e1 e2 e3
                have LE := Lib.hid (lentries_any w W5 F5 gx (1 + k + 1) s' I6.out)
                unfold LEntsR at LE
                rw [Hln'.out] at LE
                go_wp2_with fail
                refine LE.out.mono ?_
                rintro e w9 ⟨EA, ec, eks, rfl, hE9, x9⟩
                have LA9 := Lib.hid (LA8.out.gb (I6.out.out.trans x9) (GB.of_ext (fun _ => False) x9) (fun _ e => e.elim) (fun _ e => .inl e))
                obtain ⟨lk9, hl9, -, -⟩ := LA9.out
                have SM := Lib.hid (rsame_ok w9 EA LA ln ec lc s'.lst eks lk9 Hln'.out ISV.out.1 hE9 hl9)
                have X9 := Lib.hid x9
                clear hE9 x9 hl9
                go_wp2_with fail
                refine SM.out.mono ?_
                rintro e wz ⟨rfl, xz⟩
                have xx := X9.out.trans xz
                have CZ := Lib.hid (CA6.out.gb (GB.of_ext (fun _ => False) xx) (fun e => e))
                have IZ := Lib.hid (I6.out.ext xx)
                have LZ := Lib.hid (LA9.out.gb IZ.out.out (GB.of_ext (fun _ => False) xz) (fun _ e => e.elim) (fun _ e => .inl e))
                clear xx xz
                go_wp2_with fail
                go_roundw
                case rel => exact ⟨k + 1, hlt, h300, by go_num, F5, s', LA, ln, lc, rfl, Hln'.out, IZ.out.more (by omega), N5.out, Hab.out, by have := Hln'.out; omega, CZ.out, LZ.out⟩
                case measure => simp [intOf]; omega
          · have hfo1 : ((fo : Int) == 0) = false := by simpa using (by omega : (fo : Int) ≠ 0)
            have ST := Lib.hid (sin_start w V F gx (1 + k) fw fo (key.take 3) fv s K3 m3 c3 IV.out (by omega) (by omega) hfo (fun _ => Hfv2.out) Hm3.out hb3 HRV.out)
            rw [start3O hkl3] at ST
            unfold startStS at ST
            rw [start3O hkl3] at ST
            by_cases hi : s.call fw = .idle
            · have hp : idleS (s.call fw) = true := (idleS_iff _).2 hi
              rw [hp] at PD
              rw [hp, if_neg (by decide), if_pos rfl] at ST
              have ASK := Lib.hid (show AskOk fo (key.take 3) fv from ⟨by omega, hfo, by omega, hb3, fun _ => Hfv2.out⟩)
              clear hp hi
              go_wp2_with fail
              refine PD.out.mono ?_
              rintro e w5 ⟨rfl, rfl⟩
              go_wp2_with fail
              refine ST.out.mono ?_
              rintro e w5 ⟨rfl, F5, i5, g5, f5⟩
              have N5 := Lib.hid (show ¬ F5 w2.heap.size from fun e => (f5 _ e).elim HNAB.out (fun h => by omega))
              have KP5 := Lib.hid (g5.blk KV.out hnp)
              have CA5 := Lib.hid (CAV.out.gb g5 HNAB.out)
              have LA5 := Lib.hid (LAV.out.gb i5.out g5 (fun _ e => .inl e) (fun i hi => f5 i hi))
              have I5 := Lib.hid i5
              clear i5 g5 f5 q0 q1 q2 q3
              have y0 : w5.cell? ⟨wr.heap.size, 0, none⟩ = some (.int .i64 (fw : Int)) := blk_cell KP5.out 0
              have y1 : w5.cell? ⟨wr.heap.size, 1, none⟩ = some (.int .u8 (fo : Int)) := blk_cell KP5.out 1
              have y2 : w5.cell? ⟨wr.heap.size, 2, none⟩ = some (.slice K3 m3 c3) := blk_cell KP5.out 2
              have y3 : w5.cell? ⟨wr.heap.size, 3, none⟩ = some (.int .i64 fv) := blk_cell KP5.out 3
              obtain ⟨acs, at_, hab5, hasz⟩ := CA5.out.1
              obtain ⟨x0, hx0⟩ : ∃ x, w5.cell? ⟨w2.heap.size, fw * 4, none⟩ = some x := ⟨_, (blk_cell hab5 (fw * 4)).trans (Array.getElem?_eq_getElem (by rw [hasz]; omega))⟩
              obtain ⟨x1, hx1'⟩ : ∃ x, w5.cell? ⟨w2.heap.size, fw * 4 + 1, none⟩ = some x := ⟨_, (blk_cell hab5 (fw * 4 + 1)).trans (Array.getElem?_eq_getElem (by rw [hasz]; omega))⟩
              obtain ⟨x2, hx2⟩ : ∃ x, w5.cell? ⟨w2.heap.size, fw * 4 + 2, none⟩ = some x := ⟨_, (blk_cell hab5 (fw * 4 + 2)).trans (Array.getElem?_eq_getElem (by rw [hasz]; omega))⟩
              obtain ⟨x3, hx3⟩ : ∃ x, w5.cell? ⟨w2.heap.size, fw * 4 + 3, none⟩ = some x := ⟨_, (blk_cell hab5 (fw * 4 + 3)).trans (Array.getElem?_eq_getElem (by rw [hasz]; omega))⟩
              have o0 := blk_frozen hab5 (fw * 4); have o1 := blk_frozen hab5 (fw * 4 + 1); have o2 := blk_frozen hab5 (fw * 4 + 2); have o3 := blk_frozen hab5 (fw * 4 + 3)
              have CA6 := Lib.hid (CA5.out.start (who := (fw : Int)) hfw Hm3.out (by rw [← Hm3.out]; exact HKL.out) (rd_take3 3 HKR.out) ASK.out (K := K3) (kc := c3))
              have g6 := put4_gbO w5 w2.heap.size (fw * 4) (.int .i64 (fw : Int)) (.int .u8 (fo : Int)) (.slice K3 m3 c3) (.int .i64 fv)
              have I6 := Lib.hid (I5.out.gb g6 (fun i hi e => N5.out (e ▸ hi)) (fun i e => e ▸ Hab.out))
              have LA6 := Lib.hid (LA5.out.gb (F' := F5) I6.out.out g6 (fun i e => .inr (.inl e)) (fun _ e => .inl e))
              clear hab5 hasz g6
              go_wp2_with fail
              go_roundw
              case rel => exact ⟨k + 1, hlt, h300, by go_num, F5, s.put fw (.begun fo (key.take 3) fv), LA, ln, lc, rfl, Hln.out, I6.out.more (by omega), N5.out, Hab.out, by omega, CA6.out, LA6.out⟩
              case measure => simp [intOf]; omega
            · have hp : idleS (s.call fw) = false := by
                cases hq : idleS (s.call fw) with
                | false => rfl
                | true => exact absurd ((idleS_iff _).1 hq) hi
              rw [hp] at PD
              rw [hp, if_pos rfl, if_neg (by decide)] at ST
              clear hp hi
              go_wp2_with fail
              refine PD.out.mono ?_
              rintro e w5 ⟨rfl, rfl⟩
              go_wp2_with fail
              refine ST.out.mono ?_
              rintro e w5 ⟨rfl, F5, i5, g5, f5⟩
              have N5 := Lib.hid (show ¬ F5 w2.heap.size from fun e => (f5 _ e).elim HNAB.out (fun h => by omega))
              have CA5 := Lib.hid (CAV.out.gb g5 HNAB.out)
              have LA5 := Lib.hid (LAV.out.gb i5.out g5 (fun _ e => .inl e) (fun i hi => f5 i hi))
              have I5 := Lib.hid i5
              clear i5 g5 f5 q0 q1 q2 q3
              go_wp2_with fail
              go_roundw
              case rel => exact ⟨k + 1, hlt, h300, by go_num, F5, s, LA, ln, lc, rfl, Hln.out, I5.out.more (by omega), N5.out, Hab.out, by omega, CA5.out, LA5.out⟩
              case measure => simp [intOf]; omega
        · go_wp2_with fail
          go_meet
          exact HI.out.out.alloc _
      · have HX := Lib.hid hI.out
        clear hI
        go_wp2_with fail
        go_meet
        exact HX.out
  case rest =>
    go_wp2_with fail
    go_ret
    exact retTrue hcut
end Go.Proofs.Ytlgggeeflomelaa
