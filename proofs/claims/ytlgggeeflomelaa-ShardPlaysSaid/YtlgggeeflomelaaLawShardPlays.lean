/- ShardPlays answers true. -/
import Derived.Test.YtlgggeeflomelaaShZ
import Derived.Test.YtlgggeeflomelaaShM
import Derived.Test.YtlgggeeflomelaaFrame10
import Derived.Deep.LoopGhost
import Derived.Deep.CutBlock
import Derived.Deep.DeepCutAuto
namespace Go.Proofs.Ytlgggeeflomelaa
open Go.RowKit

theorem PlaysX.to {w0 w : World} {gx gk k k' : Nat} {S : Nat → Prop} (h : PlaysX w0 gx gk k S w) (hk : k ≤ k') : PlaysX w0 gx gk k' S w := by
  obtain ⟨F, G, s, h1, h2⟩ := h
  exact ⟨F, G, s, h1.more (by omega), h2⟩
theorem PlaysX.any {w0 w : World} {gx gk k : Nat} {S : Nat → Prop} (h : PlaysX w0 gx gk k S w) : PlaysX w0 gx gk k (fun _ => False) w := h.less (fun _ e => e.elim)
theorem lsame_ok (w : World) (dn : Bool) (er : Nat) (nu : Int) : Calls Try.prog 44 #[.agg #[.bool dn, .int .i64 (er : Int), .int .i64 nu], .agg #[.bool dn, .int .i64 (er : Int), .int .i64 nu]] w (RetE (.bool true) w) := by
  cases dn
  all_goals
    go_enter Try.func44, Try.ntmps44
    go_wp2_with fail
    go_ret
    exact ⟨rfl, ((Ext.refl w).alloc _).alloc _⟩
theorem xor_b (a k : Nat) (ha : a < 256) (hk : k < 256) : ∃ z : Nat, z < 256 ∧ bits .xor .u8 (a : Int) (k : Int) = (z : Int) :=
  ⟨a ^^^ k, Nat.xor_lt_two_pow (n := 8) ha hk, Go.u8_xor_nat a k ha hk⟩
/-- bytes of a call's own, that may be written over -/
def BytesO (w : World) (base : Nat) (A : Option Addr) (n c : Nat) : Prop := ∃ qs, (∀ q ∈ qs, q < 256) ∧ w.ownsRow base 5 1 (.slice A n c) n (vals .u8 qs)
theorem BytesO.at_ {w : World} {base : Nat} {A : Option Addr} {n c j : Nat} (h : BytesO w base A n c) (hj : j < n) : ∃ (b y : Nat), A = some ⟨b, 0, none⟩ ∧ base ≤ b ∧ b < w.heap.size ∧ y < 256 ∧ w.cell? ⟨b, j, none⟩ = some (.int .u8 (y : Int)) ∧ w.frozen? ⟨b, j, none⟩ = false ∧ ∀ z : Nat, z < 256 → BytesO (w.setCell ⟨b, j, none⟩ (.int .u8 (z : Int))) base A n c := by
  obtain ⟨qs, hq, ho⟩ := h
  obtain ⟨b, rfl, hb, hbs⟩ := own_block ho (by omega)
  have hl : qs.length = n := by have := ho.1; rw [vals_len] at this; omega
  obtain ⟨y, hy⟩ : ∃ y, qs[j]? = some y := ⟨_, List.getElem?_eq_getElem (by omega)⟩
  refine ⟨b, y, rfl, hb, hbs, hq y (List.mem_of_getElem? hy), (ho.cellAt j (by omega)).trans (vals_get hy), ho.frozenAt j, fun z hz => ⟨qs.set j z, fun q hqm => ?_, by rw [vals_set]; exact (ho.stored j _).1⟩⟩
  rcases List.mem_or_eq_of_mem_set hqm with h9 | h9
  · exact hq q h9
  · rw [h9]; exact hz
set_option maxHeartbeats 16000000 in
set_option maxRecDepth 100000 in
theorem shardPlays_walk (w : World) (A : Option Addr) (m c : Nat) (R : List PickR) (hl : R.length = m) (hk : ∀ r ∈ R, PickOk w r ∧ r.cap ≤ 140737488351232) (hr : Rd w A (R.flatMap pickVals)) (_hnc : m ≤ c) (_hz : m ≤ 2932031007317) :
    Calls Try.prog 10 #[.slice A m c] w (RetTrue w) := by
  have Hl := Lib.hid hl; have Hk := Lib.hid hk; have Hr := Lib.hid hr
  clear hl hk hr
  go_enter Try.func10, Try.ntmps10
  go_wp2_with fail
  refine (shAwake w).mono ?_
  rintro e w1 ⟨rfl, hx1⟩
  go_wp2_with fail
  refine (sin_new w w1 hx1).mono ?_
  rintro e w2 ⟨gx, F2, rfl, h2, _, _⟩
  have H2 := Lib.hid h2
  clear h2
  go_wp2_with fail
  refine (dnew_any w2).mono ?_
  rintro e w3 ⟨gk, rfl, h3, x3, hG⟩
  have h0 := Lib.hid (plays_new H2.out x3 h3 hG)
  clear h3 hG x3
  go_upto_block 0 with fail
  go_cut [] (fun wd => PlaysX w gx gk 300 (fun _ => False) wd)
  case first =>
    go_wp2_with fail
    go_loopw [23] (fun i wr => ∃ k : Nat, k ≤ m ∧ k ≤ 300 ∧ i = .int .i64 (k : Int) ∧ PlaysX w gx gk k (fun _ => False) wr) (fun i _ => m - (intOf i).toNat)
    case atStart => exact ⟨0, Nat.zero_le _, by omega, rfl, h0.out⟩
    case round =>
      obtain ⟨k, hk, hk3, rfl, hI⟩ := hrel
      by_cases hlt : k < m
      · obtain ⟨r, hr⟩ : ∃ r, R[k]? = some r := ⟨_, List.getElem?_eq_getElem (by rw [Hl.out]; exact hlt)⟩
        have hok := Hk.out r (List.mem_of_getElem? hr)
        obtain ⟨b, off, hA, c0, c1, c2, c3⟩ := pick_cells (Hr.out.ext hI.out) hr
        obtain ⟨who, op, K, kc, key, val⟩ := r
        dsimp only at c0 c1 c2 c3
        obtain ⟨⟨hw1, hop, hkb, hkl, hkc, hkr, hw2⟩, hcap⟩ := hok
        dsimp only at hw1 hop hkb hkl hkc hkr hw2 hcap
        subst hA
        obtain ⟨n, hn⟩ : ∃ n, key.length = n := ⟨_, rfl⟩
        rw [hn] at c2 hkl
        have HI := Lib.hid hI
        clear hI hr hw1 hw2 hkc
        by_cases h300 : k < 300
        · have h300' : ¬ (300 : Int) ≤ (k : Int) := by omega
          have hn47 : n ≤ 140737488351232 := by omega
          have HKB := Lib.hid hkb; have HKR := Lib.hid hkr; have Hn := Lib.hid hn
          clear hkb hkr hn
          obtain ⟨W, hW⟩ : ∃ W, wr.alloc (.cells #[.int .i64 who, .int .u8 (op : Int), .slice K n kc, .int .i64 val] 70) = W := ⟨_, rfl⟩
          have xW : Ext wr W := by rw [← hW]; exact (Ext.refl wr).alloc _
          have KP := Lib.hid (show W.heap[wr.heap.size]? = some (.cells #[.int .i64 who, .int .u8 (op : Int), .slice K n kc, .int .i64 val] 70 (0, 0)) by rw [← hW]; exact blk_new wr _)
          have e0 : W.cell? ⟨wr.heap.size, 0, none⟩ = some (.int .i64 who) := blk_cell KP.out 0
          have e1 : W.cell? ⟨wr.heap.size, 1, none⟩ = some (.int .u8 (op : Int)) := blk_cell KP.out 1
          have e2 : W.cell? ⟨wr.heap.size, 2, none⟩ = some (.slice K n kc) := blk_cell KP.out 2
          have e3 : W.cell? ⟨wr.heap.size, 3, none⟩ = some (.int .i64 val) := blk_cell KP.out 3
          go_upto_if 32 with fail
          (try rw [hW])
          clear hW c0 c1 c2 c3
          go_cut [7, 8, 9, 10, 11, 12, 13] (fun _ _ _ _ _ _ _ wd => PlaysX w gx gk (k + 1) (fun _ => False) wd ∧ wd.heap[wr.heap.size]? = some (.cells #[.int .i64 who, .int .u8 (op : Int), .slice K n kc, .int .i64 val] 70 (0, 0)))
          case first =>
            by_cases hop0 : op = 0
            · subst hop0
              obtain ⟨dn, er, nu, ec, hst⟩ := plays_step w W gx gk k wr.heap.size who (HI.out.fresh xW) (by omega)
              have HST := Lib.hid hst
              unfold Both2 at HST
              clear hst
              go_wp2_with fail
              refine HST.out.mono ?_
              rintro e w4 ⟨rfl, g4, h4⟩
              have K4 := Lib.hid (g4.blk KP.out (Nat.lt_irrefl _))
              have L4 := Lib.hid (show wr.heap.size < w4.heap.size from blk_lt K4.out)
              obtain ⟨T, hT⟩ : ∃ T, w4.alloc (.cells #[.bool dn, .int .i64 (er : Int), .int .i64 nu] 74) = T := ⟨_, rfl⟩
              have xT : Ext w4 T := by rw [← hT]; exact (Ext.refl w4).alloc _
              have KT := Lib.hid (blk_ext K4.out xT)
              have RT := Lib.hid (show T.heap[w4.heap.size]? = some (.cells #[.bool dn, .int .i64 (er : Int), .int .i64 nu] 74 (0, 0)) by rw [← hT]; exact blk_new w4 _)
              have H4 := Lib.hid (h4 T xT)
              clear h4 g4 e0 e1 e2 e3
              go_upto_region 18 with fail
              (try rw [hT])
              clear hT
              have b0 : T.cell? ⟨wr.heap.size, 0, none⟩ = some (.int .i64 who) := blk_cell KT.out 0
              go_wp2_with fail
              refine H4.out.mono ?_
              rintro e w5 ⟨rfl, g5, h5⟩
              have K5 := Lib.hid (g5.blk KT.out (Nat.lt_irrefl _))
              have R5 := Lib.hid (g5.blk RT.out (fun e => by have := L4.out; omega))
              obtain ⟨V, hV⟩ : ∃ V, w5.alloc (.cells #[.bool dn, .int .i64 (er : Int), .int .i64 nu] 86) = V := ⟨_, rfl⟩
              have xV : Ext w5 V := by rw [← hV]; exact (Ext.refl w5).alloc _
              have RV := Lib.hid (blk_ext R5.out xV)
              have SV := Lib.hid (show V.heap[w5.heap.size]? = some (.cells #[.bool dn, .int .i64 (er : Int), .int .i64 nu] 86 (0, 0)) by rw [← hV]; exact blk_new w5 _)
              have H5 := Lib.hid (h5.ext xV)
              have KV := Lib.hid (blk_ext K5.out xV)
              clear h5 g5 b0
              go_upto_region 19 with fail
              (try rw [hV])
              clear hV
              have u0 : V.cell? ⟨w4.heap.size, 0, none⟩ = some (.bool dn) := blk_cell RV.out 0
              have u1 : V.cell? ⟨w4.heap.size, 1, none⟩ = some (.int .i64 (er : Int)) := blk_cell RV.out 1
              have u2 : V.cell? ⟨w4.heap.size, 2, none⟩ = some (.int .i64 nu) := blk_cell RV.out 2
              have v0 : V.cell? ⟨w5.heap.size, 0, none⟩ = some (.bool dn) := blk_cell SV.out 0
              have v1 : V.cell? ⟨w5.heap.size, 1, none⟩ = some (.int .i64 (er : Int)) := blk_cell SV.out 1
              have v2 : V.cell? ⟨w5.heap.size, 2, none⟩ = some (.int .i64 nu) := blk_cell SV.out 2
              have SA := Lib.hid (lsame_ok V dn er nu)
              go_wp2_with fail
              refine SA.out.mono ?_
              rintro e w6 ⟨rfl, x6⟩
              have H6 := Lib.hid (H5.out.ext x6)
              have K6 := Lib.hid (blk_ext KV.out x6)
              clear u0 u1 u2 v0 v1 v2 x6
              go_wp2_with fail
              go_meet
              exact ⟨H6.out.any, K6.out⟩
            · have hop1 : ((op : Int) != 0) = true := by rw [bne_iff_ne]; omega
              have SPR := Lib.hid (spare_any K n kc key W Hn.out hn47 (HKR.out.ext (HI.out.out.trans xW)))
              unfold RetSpare at SPR
              rw [Hn.out] at SPR
              go_wp2_with fail
              refine SPR.out.mono ?_
              rintro e w4 ⟨A4, c4, rfl, o4, x4⟩
              have O4 := Lib.hid o4
              have X4 := Lib.hid x4
              have Hcap := Lib.hid (own_cap o4)
              obtain ⟨bf, hbf, hbf1, hbf2⟩ := own_block o4 (by omega)
              subst hbf
              have hLW : wr.heap.size < W.heap.size := blk_lt KP.out
              obtain ⟨q, hA', hB'⟩ := plays_start w w4.drew gx gk k wr.heap.size who val op n kc c4 K (some ⟨bf, 0, none⟩) key ((HI.out.fresh xW).ext x4.drew) Hn.out HKB.out HKR.out (rd_take (Rd.of_own o4)) (fun a ha => by injection ha with ha; rw [← ha]; dsimp only; omega)
              have HA := Lib.hid hA'; have HB := Lib.hid hB'
              unfold Both2 at HA HB
              have KD := Lib.hid (show w4.drew.heap[wr.heap.size]? = _ from blk_ext KP.out x4.drew)
              have a0 : w4.drew.cell? ⟨wr.heap.size, 0, none⟩ = some (.int .i64 who) := blk_cell KD.out 0
              have a1 : w4.drew.cell? ⟨wr.heap.size, 1, none⟩ = some (.int .u8 (op : Int)) := blk_cell KD.out 1
              have a2 : w4.drew.cell? ⟨wr.heap.size, 2, none⟩ = some (.slice K n kc) := blk_cell KD.out 2
              have a3 : w4.drew.cell? ⟨wr.heap.size, 3, none⟩ = some (.int .i64 val) := blk_cell KD.out 3
              have KE := Lib.hid (fun (u : World) (hf : Rd u (some ⟨bf, 0, none⟩) (vals .u8 (key ++ [165, 90, 165]))) (hx : Ext w u) => kept_true (some ⟨bf, 0, none⟩) K n (n + 3) c4 kc key u Hn.out rfl Hcap.out (by omega) HKB.out hf (HKR.out.ext hx))
              clear hA' hB' o4 x4 e0 e1 e2 e3 hop0
              go_upto_region 10 with fail
              go_region_held3 (fun w' => w'.cell? ⟨wr.heap.size, 0, none⟩ = some (.int .i64 who) ∧ w'.cell? ⟨wr.heap.size, 1, none⟩ = some (.int .u8 (op : Int)) ∧ w'.cell? ⟨wr.heap.size, 2, none⟩ = some (.slice K n kc) ∧ w'.cell? ⟨wr.heap.size, 3, none⟩ = some (.int .i64 val))
                (((try dsimp only); refine ⟨?_, ?_, ?_, ?_⟩ <;> first | (with_reducible assumption) | (with_reducible exact a0) | (with_reducible exact a1) | (with_reducible exact a2) | (with_reducible exact a3)))
                (first
                  | (go_at_call 36; (with_reducible refine HA.out.mono ?_); rintro e w5 ⟨rfl, g5, h5⟩; have K5 := Lib.hid (g5.blk KD.out (Nat.lt_irrefl _)); have G5 := Lib.hid g5; have H5 := Lib.hid (h5 w5 (Ext.refl w5)); have t0 : w5.cell? ⟨wr.heap.size, 0, none⟩ = some (.int .i64 who) := blk_cell K5.out 0; have t1 : w5.cell? ⟨wr.heap.size, 1, none⟩ = some (.int .u8 (op : Int)) := blk_cell K5.out 1; have t2 : w5.cell? ⟨wr.heap.size, 2, none⟩ = some (.slice K n kc) := blk_cell K5.out 2; have t3 : w5.cell? ⟨wr.heap.size, 3, none⟩ = some (.int .i64 val) := blk_cell K5.out 3; clear h5 g5)
                  | (go_at_call 41; (with_reducible refine HB.out.mono ?_); rintro e w5 ⟨rfl, g5, h5⟩; have K5 := Lib.hid (g5.blk KD.out (Nat.lt_irrefl _)); have G5 := Lib.hid g5; have H5 := Lib.hid (h5 w5 (Ext.refl w5)); have t0 : w5.cell? ⟨wr.heap.size, 0, none⟩ = some (.int .i64 who) := blk_cell K5.out 0; have t1 : w5.cell? ⟨wr.heap.size, 1, none⟩ = some (.int .u8 (op : Int)) := blk_cell K5.out 1; have t2 : w5.cell? ⟨wr.heap.size, 2, none⟩ = some (.slice K n kc) := blk_cell K5.out 2; have t3 : w5.cell? ⟨wr.heap.size, 3, none⟩ = some (.int .i64 val) := blk_cell K5.out 3; clear h5 g5)
                  | ((with_reducible refine H5.out.mono ?_); rintro e w6 ⟨rfl, g6, h6⟩; have K6 := Lib.hid (g6.blk K5.out (Nat.lt_irrefl _)); have H6 := Lib.hid h6; have O6 := Lib.hid (g6.own (G5.out.own (own_ext O4.out (Ext.refl w4).drew) (fun i e h => by have h8 := (O4.out.lt i e).1; have h9 : i < wr.heap.size := h; omega)) (fun i e h => by have h8 := (O4.out.lt i e).1; have h9 : i < wr.heap.size := h; omega)); have s0 : w6.cell? ⟨wr.heap.size, 0, none⟩ = some (.int .i64 who) := blk_cell K6.out 0; have s1 : w6.cell? ⟨wr.heap.size, 1, none⟩ = some (.int .u8 (op : Int)) := blk_cell K6.out 1; have s2 : w6.cell? ⟨wr.heap.size, 2, none⟩ = some (.slice K n kc) := blk_cell K6.out 2; have s3 : w6.cell? ⟨wr.heap.size, 3, none⟩ = some (.int .i64 val) := blk_cell K6.out 3; clear h6 g6)
                  | (go_at_call 42; (with_reducible refine (KE.out w6 (Rd.of_own O6.out) H6.out.out).mono ?_); rintro e w7 ⟨rfl, q7, hw7⟩; have X7 : Hid (Ext w6 w7) := Lib.hid (by rw [hw7]; exact (Ext.refl w6).drewN q7); have r0 := ext_cell X7.out s0; have r1 := ext_cell X7.out s1; have r2 := ext_cell X7.out s2; have r3 := ext_cell X7.out s3; clear hw7))
              all_goals
                have hB7 := Lib.hid (show BytesO w7 W.heap.size (some ⟨bf, 0, none⟩) (n + 3) c4 from ⟨_, (fun q hq => (List.mem_append.1 hq).elim (HKB.out q) (fun h => by simp at h; omega)), own_ext O6.out X7.out⟩)
                have P7 := Lib.hid (H6.out.ext X7.out)
                have K7 := Lib.hid (blk_ext K6.out X7.out)
                have hMM : w4.drew.heap.size = w4.heap.size := rfl
                clear t0 t1 t2 t3 s0 s1 s2 s3 r0 r1 r2 r3 a0 a1 a2 a3
                go_wp2_with fail
                go_loopw [68] (fun i wv => ∃ j : Nat, j ≤ n + 3 ∧ i = .int .i64 (j : Int) ∧ BytesO wv W.heap.size (some ⟨bf, 0, none⟩) (n + 3) c4 ∧ PlaysX w gx gk k (fun i => wr.heap.size ≤ i ∧ i < w4.drew.heap.size) wv ∧ wv.heap[wr.heap.size]? = some (.cells #[.int .i64 who, .int .u8 (op : Int), .slice K n kc, .int .i64 val] 70 (0, 0))) (fun i _ => n + 3 - (intOf i).toNat)
                case atStart => exact ⟨0, Nat.zero_le _, rfl, hB7.out, P7.out, K7.out⟩
                case round =>
                  obtain ⟨j, hj, rfl, hby, hpx, hpk⟩ := hrel
                  by_cases hjl : j < n + 3
                  · obtain ⟨b9, y, hb9, hge, hbs, hy, cy, fy, hput⟩ := hby.at_ hjl
                    have hbe : bf = b9 := by injection hb9 with hb9; injection hb9
                    clear hb9
                    subst hbe
                    obtain ⟨z, hz, hxz⟩ := xor_b y 1 hy (by omega)
                    have hxz' : bits .xor .u8 (y : Int) 1 = (z : Int) := hxz
                    have hw0 := HI.out.out.size
                    have PB := Lib.hid (hput z hz)
                    have g9 := (GB.refl wr (· = bf)).set bf j (.int .u8 (z : Int)) (.inl rfl)
                    have PX := Lib.hid (hpx.far g9 (fun i e => by subst e; exact ⟨⟨by omega, hbf2⟩, by omega⟩))
                    have PK := Lib.hid (g9.blk hpk (by omega))
                    have hjl' : (j : Int) < (n : Int) + 3 := by omega
                    clear hput hby hpx hpk g9 hxz
                    go_wp2_with fail
                    go_roundw
                    case rel => exact ⟨j + 1, hjl, by go_num, PB.out, PX.out, PK.out⟩
                    case measure => simp [intOf]; omega
                  · have hjl' : ¬ (j : Int) < (n : Int) + 3 := by omega
                    have PX := Lib.hid hpx; have PK := Lib.hid hpk
                    clear hby hpx hpk
                    go_wp2_with fail
                    go_meet
                    exact ⟨PX.out.any.up, PK.out⟩
          case rest =>
            obtain ⟨hI2, hK2⟩ := hcut
            obtain ⟨bp, hbp⟩ := plays_pend w wc gx gk (k + 1) who hI2
            obtain ⟨vr, ln, llc, LA, l, lks, lv, lc9, lln, lok, lE, hVR, hLE, hEN⟩ := plays_look w wc gx gk (k + 1) hI2 (by omega)
            have HI2 := Lib.hid hI2; have HP := Lib.hid hbp; have HV := Lib.hid hVR; have HL := Lib.hid hLE; have HN := Lib.hid hEN; have Lln := Lib.hid lln; have Lok := Lib.hid lok; have LE := Lib.hid lE
            have hln : ln ≤ 4096 := by rw [← lln]; exact lok.2.2
            have KPC := Lib.hid hK2
            clear hI2 hbp hVR hLE hEN lln lok lE hK2 e0 e1 e2 e3
            go_wp2_with fail
            refine (HN.out wc (Ext.refl wc)).mono ?_
            rintro e w7 ⟨A7, c7, ks7, rfl, n7, x7⟩
            have N7 := Lib.hid n7; have X7 := Lib.hid x7
            have f0 : w7.cell? ⟨wr.heap.size, 0, none⟩ = some (.int .i64 who) := blk_cell (blk_ext KPC.out x7) 0
            have f1 := ext_cell x7 lv; have f2 := ext_cell x7 lc9
            obtain ⟨wc1, hwc1⟩ : ∃ wc1 : World, Hid (wc = wc1) := ⟨_, Lib.hid rfl⟩
            rw [hwc1.out] at X7 N7 HI2 HP HV HL LE
            clear n7 x7 lv lc9
            go_upto_region 22 with fail
            go_cut [130] (fun v wd => v = .bool false ∧ OvS w gx gk (k + 1) wc1.heap.size A7 ln wd)
            case first =>
              go_region_held3 (fun w' => w'.cell? ⟨wr.heap.size, 0, none⟩ = some (.int .i64 who) ∧ w'.cell? ⟨gk, 0, none⟩ = some (.int .i64 (vr : Int)) ∧ w'.cell? ⟨gk, 1, none⟩ = some (.slice LA ln llc))
                (((try dsimp only); refine ⟨?_, ?_, ?_⟩ <;> first | (with_reducible assumption) | (with_reducible exact drew_cell f0) | (with_reducible exact drew_cell f1) | (with_reducible exact drew_cell f2)))
                (first
                  | (go_at_call 35; (with_reducible refine (HP.out w7.drew X7.out.drew).1.mono ?_); rintro e wz ⟨rfl, rfl⟩)
                  | (go_at_call 46; (with_reducible refine (HP.out w7.drew X7.out.drew).2.mono ?_); rintro e wz ⟨rfl, rfl⟩)
                  | (go_at_call 38; (with_reducible refine (HV.out w7.drew X7.out.drew).mono ?_); rintro e w8 ⟨rfl, x8⟩; have X8 := Lib.hid ((Ext.refl w7).drew.trans x8); have g0 := ext_cell X8.out f0; have g1 := ext_cell X8.out f1; have g2 := ext_cell X8.out f2; clear x8)
                  | (go_at_call 48; (with_reducible refine (HL.out w8 (X7.out.trans X8.out)).mono ?_); rintro e w9 ⟨A9, c9, ks9, rfl, r9, x9⟩; have R9 := Lib.hid r9; have X9 := Lib.hid (X8.out.trans x9); have h0 := ext_cell X9.out f0; have h1 := ext_cell X9.out f1; have h2 := ext_cell X9.out f2; have SM := Lib.hid (rsame_ok w9 A9 LA ln c9 llc l ks9 lks Lln.out Lok.out r9 (LE.out.ext (X7.out.trans X9.out))); clear r9 x9)
                  | (go_at_call 47; (with_reducible refine SM.out.mono ?_); rintro e wy ⟨rfl, xy⟩; have XY := Lib.hid (X9.out.trans xy); have j0 := ext_cell XY.out f0; have j1 := ext_cell XY.out f1; have j2 := ext_cell XY.out f2; clear xy))
              all_goals
                go_wp2_with fail
                go_meet
                exact ⟨rfl, (ov_new ((HI2.out.fresh X7.out)) N7.out Lok.out).ext XY.out⟩
            case rest =>
              obtain ⟨rfl, hov⟩ := hcut
              have hwc : w.heap.size ≤ wc1.heap.size := HI2.out.out.size
              have HOV := Lib.hid hov
              clear hov f0 f1 f2
              go_wp2_with fail
              go_loopw [133] (fun i wv => ∃ j : Nat, j ≤ ln ∧ i = .int .i64 (j : Int) ∧ OvS w gx gk (k + 1) wc1.heap.size A7 ln wv) (fun i _ => ln - (intOf i).toNat)
              case atStart => exact ⟨0, Nat.zero_le _, rfl, HOV.out⟩
              case round =>
                obtain ⟨j, hj, rfl, hov⟩ := hrel
                by_cases hjl : j < ln
                · obtain ⟨b9, K9, mk, kc9, v9, hA9, hb9, hB9, ck, hmk, cv, hby⟩ := hov.2 j hjl
                  subst hA9
                  have fv := hB9.frz (j * 2 + 1)
                  have PU := Lib.hid (ov_val (j := j) hov rfl hb9 hwc (.int .i64 99))
                  obtain ⟨X, hX⟩ : ∃ X, wr.setCell ⟨b9, j * 2 + 1, none⟩ (.int .i64 99) = X := ⟨_, rfl⟩
                  have ckX : X.cell? ⟨b9, j * 2, none⟩ = some (.slice K9 mk kc9) := by rw [← hX]; exact cell_off ck (by omega)
                  rw [hX] at PU
                  have CK := Lib.hid ckX
                  clear hov hby ckX
                  go_upto_region 28 with fail
                  (try rw [hX])
                  clear hX cv fv
                  have ck1 : X.cell? ⟨b9, j * 2, none⟩ = some (.slice K9 mk kc9) := CK.out
                  go_wp2_with fail
                  go_loopw [146] (fun i wy => ∃ q : Nat, q ≤ mk ∧ i = .int .i64 (q : Int) ∧ OvS w gx gk (k + 1) wc1.heap.size (some ⟨b9, 0, none⟩) ln wy ∧ wy.cell? ⟨b9, j * 2, none⟩ = some (.slice K9 mk kc9)) (fun i _ => mk - (intOf i).toNat)
                  case atStart => exact ⟨0, Nat.zero_le _, rfl, PU.out, CK.out⟩
                  case round =>
                    obtain ⟨q, hq, rfl, hov, hck⟩ := hrel
                    by_cases hql : q < mk
                    · obtain ⟨b8, K8, mk8, kc8, v8, hA8, hb8, hB8, ck8, hmk8, cv8, hby8⟩ := hov.2 j hjl
                      obtain rfl : b9 = b8 := by injection hA8 with h; injection h
                      have hs8 := ck8.symm.trans hck
                      injection hs8 with hs8
                      injection hs8 with hs8 hs9 _
                      subst hs8 hs9
                      obtain ⟨bk, y, hK8, hbk, hne8, hy, hBk, cy⟩ := hby8 q hql
                      subst hK8
                      obtain ⟨z, hz, hxz⟩ := xor_b y 3 hy (by omega)
                      have hxz' : bits .xor .u8 (y : Int) 3 = (z : Int) := hxz
                      have fy := hBk.frz q
                      have PV := Lib.hid (ov_key (i := q) hov rfl hbk hne8 hz hwc)
                      have CK2 := Lib.hid (((GB.refl wr (· = bk)).set bk q (.int .u8 (z : Int)) (.inl rfl)).cell hck (fun e => hne8 e.symm))
                      have hql' : (q : Int) < (mk8 : Int) := by omega
                      have hjl' : (j : Int) < (ln : Int) := by omega
                      clear hov hby8 ck8 cv8 hxz hA8
                      go_wp2_with fail
                      go_roundw
                      case rel => exact ⟨q + 1, hql, by go_num, PV.out, CK2.out⟩
                      case measure => simp [intOf]; omega
                    · have HOV2 := Lib.hid hov
                      clear hov hck
                      go_wp2_with fail
                      go_roundw
                      case rel => exact ⟨j + 1, hjl, by go_num, HOV2.out⟩
                      case measure => simp [intOf]; omega
                · have HOV2 := Lib.hid hov
                  clear hov
                  go_wp2_with fail
                  go_roundw
                  case rel => exact ⟨k + 1, hlt, h300, by go_num, HOV2.out.1.any⟩
                  case measure => simp [intOf]; omega
        · go_wp2_with fail
          go_meet
          exact (HI.out.to (by omega)).ext ((Ext.refl wr).alloc _)
      · have HI := Lib.hid hI
        clear hI
        go_wp2_with fail
        go_meet
        exact HI.out.to (by omega)
  case rest =>
    obtain ⟨vr, ln, llc, LA, l, lks, lv, lc9, lln, lok, lE, hVR, hLE, hEN⟩ := plays_look w wc gx gk 300 hcut (by omega)
    have HX := Lib.hid hcut.out; have HL := Lib.hid hLE; have Lln := Lib.hid lln; have Lok := Lib.hid lok; have LE := Lib.hid lE
    clear hcut hVR hLE hEN lln lok lE lv
    go_upto_region 35 with fail
    go_region_held3 (fun w' => w'.cell? ⟨gk, 1, none⟩ = some (.slice LA ln llc))
      (((try dsimp only); first | (with_reducible assumption) | (with_reducible exact drew_cell lc9)))
      (first
        | (go_at_call 48; (with_reducible refine (HL.out wc.drew (Ext.refl wc).drew).mono ?_); rintro e w9 ⟨A9, c9, ks9, rfl, r9, x9⟩; have X9 := Lib.hid ((Ext.refl wc).drew.trans x9); have h2 := ext_cell X9.out lc9; have SM := Lib.hid (rsame_ok w9 A9 LA ln c9 llc l ks9 lks Lln.out Lok.out r9 (LE.out.ext X9.out)); clear r9 x9)
        | (go_at_call 47; (with_reducible refine SM.out.mono ?_); rintro e wy ⟨rfl, xy⟩; have XY := Lib.hid (X9.out.trans xy); have j2 := ext_cell XY.out lc9; clear xy))
    all_goals
      go_wp2_with fail
      go_ret
      exact retTrue (HX.out.trans XY.out)
end Go.Proofs.Ytlgggeeflomelaa
