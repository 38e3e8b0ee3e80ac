/- MachOnes answers true. -/
import Derived.Test.YtfjgpeffhbfihaaMchF
import Derived.Test.YtfjgpeffhbfihaaNum3
import Derived.Test.YtfjgpeffhbfihaaFrame
import Derived.BigRegion
import Derived.Deep.LoopGhost
import Derived.Deep.DeepCutAuto
import Derived.Deep.CutBlock
import Derived.Deep.QuietTactic
namespace Go.Proofs.Ytfjgpeffhbfihaa
open Go.RowKit

/-- what holds ahead of a round: the machine's words are those of was, the clock is clk, so many accesses at most -/
def OneSt (w : World) (g q n k : Nat) (clk : Nat) (ws : List Nat) (wr : World) : Prop :=
  ∃ L F, ws.length = n ∧ MachAt wr F g ws clk L ∧ L.length ≤ k ∧ (clk : Int) ≤ 4611686018427387903 ∧ wr.heap[q]? = some (.cells (vals .u64 ws).toArray 28 (0, 0)) ∧ ¬ F q ∧ w.heap.size ≤ q ∧ Ext w wr ∧ ∀ i, F i → w.heap.size ≤ i
theorem OneSt.ext {w wr w' : World} {g q n k clk : Nat} {ws : List Nat} (h : OneSt w g q n k clk ws wr) (x : Ext wr w') : OneSt w g q n k clk ws w' := by
  obtain ⟨L, F, h1, h2, h3, h4, h5, h6, h7, h8, h9⟩ := h
  exact ⟨L, F, h1, h2.ext x, h3, h4, blk_ext h5 x, h6, h7, h8.trans x, h9⟩
/-- the copy of the call that the round made -/
def opObj (kd : Nat) (a d : Nat) (old new : Nat) (t : Int) : Obj := .cells #[.int .u8 (kd : Int), .int .i64 (a : Int), .int .i64 (d : Int), .int .u64 (old : Int), .int .u64 (new : Int), .int .i64 t] 30 (0, 0)
/-- in a round, behind the call; ws: was still, W: was as it stands, ws': the machine's words -/
def MidSt (w : World) (g q P n k : Nat) (o : Obj) (clk : Nat) (W ws' : List Nat) (wd : World) : Prop :=
  ∃ L F, W.length = n ∧ ws'.length = n ∧ MachAt wd F g ws' clk L ∧ L.length ≤ k ∧ (clk : Int) ≤ 4611686018427387903 ∧ wd.heap[q]? = some (.cells (vals .u64 W).toArray 28 (0, 0)) ∧ wd.heap[P]? = some o ∧ ¬ F q ∧ q < P ∧ w.heap.size ≤ q ∧ Ext w wd ∧ ∀ i, F i → w.heap.size ≤ i
theorem MidSt.ext {w wr w' : World} {g q P n k clk : Nat} {o : Obj} {W ws' : List Nat} (h : MidSt w g q P n k o clk W ws' wr) (x : Ext wr w') : MidSt w g q P n k o clk W ws' w' := by
  obtain ⟨L, F, h1, h2, h3, h4, h5, h6, h7, h8, h9, h10, h11, h12⟩ := h
  exact ⟨L, F, h1, h2, h3.ext x, h4, h5, blk_ext h6 x, blk_ext h7 x, h8, h9, h10, h11.trans x, h12⟩
theorem mid_of {w wc wd : World} {g q P n k clk' : Nat} {o : Obj} {ws ws' : List Nat} {F : Nat → Prop} {L' : List AccE} (h : MachGo wc F g ws' clk' L' wd) (hl : ws.length = n) (hl' : ws'.length = n) (hL : L'.length ≤ k) (hc : (clk' : Int) ≤ 4611686018427387903)
    (hq : wc.heap[q]? = some (.cells (vals .u64 ws).toArray 28 (0, 0))) (hP : wc.heap[P]? = some o) (hFq : ¬ F q) (hqP : q < P) (hwq : w.heap.size ≤ q) (hx : Ext w wc) (hF : ∀ i, F i → w.heap.size ≤ i) (hFP : ∀ i, F i → i < P) : MidSt w g q P n k o clk' ws ws' wd := by
  obtain ⟨F', m, gb, f⟩ := h
  refine ⟨L', F', hl, hl', m, hL, hc, gb.blk hq hFq, gb.blk hP (fun e => Nat.lt_irrefl _ (hFP _ e)), fun e => ?_, hqP, hwq, gb.to_ext hx hF, fun i hi => ?_⟩
  · rcases f q e with f | f
    · exact hFq f
    · have := blk_lt hq; omega
  · rcases f i hi with f | f
    · exact hF i f
    · exact Nat.le_trans hx.size f
theorem mcount_more (w : World) (F : Nat → Prop) (g : Nat) (ws : List Nat) (clk : Int) (L : List AccE) (a : AccE) (l : Nat) (h : MachAt w F g ws clk (L ++ [a])) (hl : L.length = l) :
    Calls Try.prog 16 #[.pointer (some ⟨g, 0, none⟩)] w fun e w' => e = .returned (.int .i64 ((l : Int) + 1)) ∧ w = w' := by
  have := mcount_any w F g ws clk _ h
  rw [List.length_append, hl] at this
  simpa using this
theorem MidSt.store {w wr : World} {g q P n k clk j y : Nat} {o : Obj} {W ws' : List Nat} (h : MidSt w g q P n k o clk W ws' wr) : MidSt w g q P n k o clk (W.set j y) ws' (wr.setCell ⟨q, j, none⟩ (.int .u64 (y : Int))) := by
  obtain ⟨L, F, h1, h2, h3, h4, h5, h6, h7, h8, h9, h10, h11, h12⟩ := h
  have gs : GB wr (wr.setCell ⟨q, j, none⟩ (.int .u64 (y : Int))) (· = q) := (GB.refl wr _).set q j _ (.inl rfl)
  refine ⟨L, F, by simpa using h1, h2, h3.gb gs (fun i hi e => h8 (e ▸ hi)), h4, h5, ?_, gs.blk h7 (fun e => by omega), h8, h9, h10, h11.setCell (p := ⟨q, j, none⟩) h10 _, h12⟩
  refine (blk_set h6 j _).trans ?_
  rw [vals_set]
  simp
theorem one_of {w wr : World} {g q P n k clk : Nat} {o : Obj} {W ws' : List Nat} (h : MidSt w g q P n k o clk W ws' wr) (hw : ∀ i, i < n → W[i]? = ws'[i]?) : OneSt w g q n k clk ws' wr := by
  obtain ⟨L, F, h1, h2, h3, h4, h5, h6, h7, h8, h9, h10, h11, h12⟩ := h
  have e : W = ws' := by
    refine List.ext_getElem? fun i => ?_
    by_cases hi : i < n
    · exact hw i hi
    · rw [List.getElem?_eq_none (by omega), List.getElem?_eq_none (by omega)]
  subst e
  exact ⟨L, F, h1, h3, h4, h5, h6, h8, h10, h11, h12⟩
theorem ext_set2 {w W : World} (x : Ext w W) {P i j : Nat} {u v : Value} (h : w.heap.size ≤ P) : Ext w ((W.setCell ⟨P, i, none⟩ u).setCell ⟨P, j, none⟩ v).drew := ((x.setCell (p := ⟨P, i, none⟩) h u).setCell (p := ⟨P, j, none⟩) h v).drew
set_option maxHeartbeats 4000000 in
set_option maxRecDepth 100000 in
theorem machOnes_walk (w : World) (n0 : Nat) (hn0 : n0 < 256) (A : Option Addr) (nn c : Nat) (R : List (List Int)) (hl : R.length = nn) (hk : RecsOk opKs R) (hr : Rd w A (R.flatMap (recVals opKs))) (_hnc : nn ≤ c) (_hz : nn ≤ 17592186043904) :
    Calls Try.prog 4 #[.int .u8 (n0 : Int), .slice A nn c] w (RetTrue w) := by
  have Hl := Lib.hid hl; have Hk := Lib.hid hk; have Hr := Lib.hid hr
  clear hl hk hr
  obtain ⟨n, hn⟩ : ∃ n, 1 + n0 % 8 = n := ⟨_, rfl⟩
  have hn8 : n ≤ 8 := by omega
  have hn1 : 1 ≤ n := by omega
  have hni : (1 : Int) + (n0 : Int) % 8 = (n : Int) := by omega
  have hmk := run_make_row' (P := Try.prog) 44 28 (.int .u64 0) 8 Try.underlying44 info_u64 rfl .i64 .i64 n (by omega) (by omega)
  clear hn
  go_enter Try.func4, Try.ntmps4
  go_wp2_with fail
  refine (machAwake w).mono ?_
  rintro e w1 ⟨rfl, hx1⟩
  go_wp2_with fail
  refine (mnew_ok n w1 (by omega) (by omega)).mono ?_
  intro e w2 hn
  obtain ⟨g, rfl, ⟨F, m2, x2, f2⟩, _⟩ := MachIn.of_new hx1 hn
  clear hn
  obtain ⟨q, hq⟩ : ∃ q, w2.heap.size = q := ⟨_, rfl⟩
  have h0 := Lib.hid (show OneSt w g q n 0 0 (List.replicate n 0) (w2.alloc (.cells (madeCells #[.int .u64 0] n) 28)) from
    ⟨[], F, by simp, m2.ext ((Ext.refl w2).alloc _), Nat.le_refl _, by omega, (blk_newk w2 _ hq).trans (by rw [made_u64]), fun h => by
      obtain ⟨_, _, _, _, _, _, _, _, _, _, _, _, _, _, _, hlt⟩ := m2
      have := hlt q h
      omega, by rw [← hq]; exact x2.size, x2.alloc _, f2⟩)
  clear m2
  go_wp2_with fail
  go_loopw [9, 46] (fun v9 i wr => ∃ (k clk : Nat) (ws : List Nat), k ≤ nn ∧ k ≤ 200 ∧ i = .int .i64 (k : Int) ∧ v9 = .int .i64 (clk : Int) ∧ OneSt w g q n k clk ws wr) (fun _ i _ => nn - (intOf i).toNat)
  case atStart => exact ⟨0, 0, _, Nat.zero_le _, by omega, rfl, rfl, h0.out⟩
  case round =>
    obtain ⟨k, clk, ws, hk, hk2, rfl, rfl, hI⟩ := hrel
    by_cases hlt : k < nn
    · obtain ⟨r, hr⟩ : ∃ r, R[k]? = some r := ⟨_, List.getElem?_eq_getElem (by rw [Hl.out]; exact hlt)⟩
      obtain ⟨kd, who, word, old, new, t, rfl, r1, r2, r3, r4, r5, r6⟩ := op_row Hk.out hr
      have hxr : Ext w wr := by obtain ⟨_, _, _, _, _, _, _, _, _, x, _⟩ := hI; exact x
      obtain ⟨b, off, hA, _, c0, c1, c2, c3, c4, c5⟩ := op_cells (Hr.out.ext hxr) Hk.out hr
      subst hA
      have HI := Lib.hid hI
      clear hI hr
      by_cases h200 : k < 200
      · obtain ⟨u, hu⟩ : ∃ u : Nat, IntKind.u64.wrap who = (u : Int) := ⟨(IntKind.u64.wrap who).toNat, by rw [IntKind.wrap_u64]; omega⟩
        obtain ⟨v, hv⟩ : ∃ v : Nat, IntKind.u64.wrap word = (v : Int) := ⟨(IntKind.u64.wrap word).toNat, by rw [IntKind.wrap_u64]; omega⟩
        obtain ⟨a, ha, ha64⟩ : ∃ a : Nat, (u : Int) % 64 = (a : Int) ∧ (a : Int) < 64 := ⟨u % 64, by omega, by omega⟩
        obtain ⟨d, hd, hdn⟩ : ∃ d : Nat, (v : Int) % (n : Int) = (d : Int) ∧ d < n := ⟨v % n, by omega, Nat.mod_lt _ (by omega)⟩
        have hdn' : (d : Int) < (n : Int) := by omega
        obtain ⟨W, hW⟩ : ∃ W, wr.alloc (.cells #[.int .u8 (kd : Int), .int .i64 who, .int .i64 word, .int .u64 (old : Int), .int .u64 (new : Int), .int .i64 t] 30) = W := ⟨_, rfl⟩
        have KW := Lib.hid (show W.heap[wr.heap.size]? = some (.cells #[.int .u8 (kd : Int), .int .i64 who, .int .i64 word, .int .u64 (old : Int), .int .u64 (new : Int), .int .i64 t] 30 (0, 0)) by rw [← hW]; exact blk_new wr _)
        have xW : Ext wr W := by rw [← hW]; exact (Ext.refl wr).alloc _
        have e1 := blk_cell KW.out 1; have e2 := blk_cell KW.out 2
        have z1 := blk_frozen KW.out 1; have z2 := blk_frozen KW.out 2
        go_upto_region 13 with fail
        (try rw [hW])
        clear hW c0 c1 c2 c3 c4 c5 hmk
        obtain ⟨P, hP⟩ : ∃ P, wr.heap.size = P := ⟨_, rfl⟩
        rw [hP] at KW e1 e2 z1 z2 ⊢
        have HP := Lib.hid hP
        clear hP
        go_cut [] (fun wd => wd.heap[P]? = some (.cells #[.int .u8 (kd : Int), .int .i64 (a : Int), .int .i64 (d : Int), .int .u64 (old : Int), .int .u64 (new : Int), .int .i64 t] 30 (0, 0)) ∧ Ext wr wd)
        case first =>
          as_aux_lemma =>
            go_region
            all_goals
              go_wp2_with fail
              go_meet
              first
                | exact ⟨blk_set (blk_set KW.out 1 _) 2 _, ext_set2 xW (by rw [HP.out]; exact Nat.le_refl _)⟩
                | exact ⟨(by have h := blk_set (blk_set KW.out 2 (.int .i64 (d : Int))) 1 (.int .i64 (a : Int)); exact h), ext_set2 xW (by rw [HP.out]; exact Nat.le_refl _)⟩
        case rest =>
          obtain ⟨KP, xc⟩ := hcut
          obtain ⟨L, F, i1, i2, i3, i4, i5, i6, i7, i8, i9⟩ := HI.out
          have hFP : ∀ i, F i → i < P := by
            obtain ⟨_, _, _, _, _, _, _, _, _, _, _, _, _, _, _, hlt⟩ := i2
            rw [← HP.out]
            exact hlt
          have hqP : q < P := by rw [← HP.out]; exact blk_lt i5
          have MC := Lib.hid (i2.ext xc); have KQ := Lib.hid (blk_ext i5 xc); have KPP := Lib.hid KP; have XC := Lib.hid (i8.trans xc); have HF := Lib.hid i9; have HFP := Lib.hid hFP; have HNQ := Lib.hid i6; have HWL := Lib.hid i1
          obtain ⟨l, hl⟩ : ∃ l, Hid (L.length = l) := ⟨_, rfl⟩
          have hl3 : l ≤ k := by rw [← hl.out]; exact i3
          have CN := Lib.hid (mcount_any wc F g ws clk L MC.out)
          rw [hl.out] at CN
          obtain ⟨x, hx⟩ : ∃ x, ws[d]? = some x := ⟨_, List.getElem?_eq_getElem (by rw [i1]; exact hdn)⟩
          have Hx := Lib.hid hx
          have MID := Lib.hid (fun (ws' : List Nat) (clk' : Nat) (L' : List AccE) (wd : World) (h : MachGo wc F g ws' clk' L' wd) (hl' : ws'.length = n) (hL : L'.length ≤ k + 1) (hc : (clk' : Int) ≤ 4611686018427387903) => mid_of (o := opObj kd a d old new t) h i1 hl' hL hc KQ.out KP i6 hqP i7 XC.out i9 hFP)
          have p1 := blk_cell KP 1; have p2 := blk_cell KP 2; have p3 := blk_cell KP 3; have p4 := blk_cell KP 4; have p5 := blk_cell KP 5; have p0 := blk_cell KP 0
          clear i1 i2 i3 i5 i6 i8 i9 KP xc hFP hx e1 e2 z1 z2 hxr xW HI hu hv ha hd KW
          go_wp2_with fail
          refine CN.out.mono ?_
          rintro e w3 ⟨rfl, rfl⟩
          go_upto_block 2 with fail
          go_cut [9, 13, 14, 15, 16, 17, 18, 19, 20, 21, 71, 72, 101, 138, 161] (fun v9 v13 _ _ _ _ _ _ _ _ _ _ _ _ _ wd => ∃ (ws' : List Nat) (clk' : Nat) (dn : Bool), v9 = .int .i64 (clk' : Int) ∧ v13 = .bool dn ∧ MidSt w g q P n (k + 1) (opObj kd a d old new t) clk' ws ws' wd ∧ ws' = (if dn then ws.set d new else ws))
          case first =>
            as_aux_lemma =>
              rcases (by omega : kd % 4 = 0 ∨ kd % 4 = 1 ∨ kd % 4 = 2 ∨ kd % 4 = 3) with h4 | h4 | h4 | h4
              · have h4' : ((kd : Int) % 4) = 0 := by omega
                clear h4
                have LD := Lib.hid (load_ok wc F g ws clk L a d x MC.out (by rw [hl.out]; omega) (by omega) (by omega) Hx.out)
                go_wp2_with fail
                refine LD.out.mono ?_
                rintro e w4 ⟨rfl, hm⟩
                have MI := Lib.hid (MID.out ws clk _ w4 hm HWL.out (by have := hl.out; simp; omega) i4)
                obtain ⟨F4, m4, _⟩ := hm
                have C4 := Lib.hid (mcount_more w4 F4 g ws clk L _ l m4 hl.out)
                obtain ⟨_, _, _, _, _, _, _, kq, kp, _⟩ := MI.out
                have bq : w4.cell? ⟨q, d, none⟩ = some (.int .u64 (x : Int)) := (blk_cell kq d).trans (by simpa using vals_get Hx.out)
                have bp : w4.cell? ⟨P, 2, none⟩ = some (.int .i64 (d : Int)) := blk_cell kp 2
                clear kq kp m4
                go_wp2_with fail
                refine C4.out.mono ?_
                rintro e w5 ⟨rfl, rfl⟩
                go_wp2_with fail
                go_meet
                exact ⟨ws, clk, false, rfl, rfl, MI.out, rfl⟩
              · have h4' : ((kd : Int) % 4) = 1 := by omega
                clear h4
                by_cases hxo : x = old
                · subst hxo
                  have SW := Lib.hid (swap_hit wc F g ws clk L a d x new MC.out (by rw [hl.out]; omega) (by omega) (by omega) Hx.out)
                  go_wp2_with fail
                  refine SW.out.mono ?_
                  rintro e w4 ⟨rfl, hm⟩
                  have MI := Lib.hid (MID.out _ clk _ w4 hm (by rw [List.length_set]; exact HWL.out) (by have := hl.out; simp; omega) i4)
                  obtain ⟨F4, m4, _⟩ := hm
                  have C4 := Lib.hid (fun nq => mcount_more (w4.drewN nq) F4 g _ clk L _ l (m4.ext ((Ext.refl w4).drewN nq)) hl.out)
                  obtain ⟨_, _, _, _, _, _, _, kq, kp, _⟩ := MI.out
                  have bq : w4.cell? ⟨q, d, none⟩ = some (.int .u64 (x : Int)) := (blk_cell kq d).trans (by simpa using vals_get Hx.out)
                  have bp : w4.cell? ⟨P, 2, none⟩ = some (.int .i64 (d : Int)) := blk_cell kp 2
                  have bp3 : w4.cell? ⟨P, 3, none⟩ = some (.int .u64 (x : Int)) := blk_cell kp 3
                  clear kq kp m4
                  have hdd0 : (0 : Int) ≤ (d : Int) := by omega
                  go_upto_region 24 with fail
                  go_quiet ((go_at_call 16; exact quiet_eq (C4.out _)))
                  go_wp2_with fail
                  go_meet
                  exact ⟨_, clk, true, rfl, rfl, MI.out.ext ((Ext.refl w4).drewN _), rfl⟩
                · have hne : ((x : Int) == (old : Int)) = false := by rw [beq_eq_false_iff_ne]; omega
                  have SW := Lib.hid (swap_miss wc F g ws clk L a d x old new MC.out (by rw [hl.out]; omega) (by omega) (by omega) Hx.out hxo)
                  clear hxo
                  go_wp2_with fail
                  refine SW.out.mono ?_
                  rintro e w4 ⟨rfl, hm⟩
                  have MI := Lib.hid (MID.out ws clk _ w4 hm HWL.out (by have := hl.out; simp; omega) i4)
                  obtain ⟨F4, m4, _⟩ := hm
                  have C4 := Lib.hid (fun nq => mcount_more (w4.drewN nq) F4 g _ clk L _ l (m4.ext ((Ext.refl w4).drewN nq)) hl.out)
                  obtain ⟨_, _, _, _, _, _, _, kq, kp, _⟩ := MI.out
                  have bq : w4.cell? ⟨q, d, none⟩ = some (.int .u64 (x : Int)) := (blk_cell kq d).trans (by simpa using vals_get Hx.out)
                  have bp : w4.cell? ⟨P, 2, none⟩ = some (.int .i64 (d : Int)) := blk_cell kp 2
                  have bp3 : w4.cell? ⟨P, 3, none⟩ = some (.int .u64 (old : Int)) := blk_cell kp 3
                  clear kq kp m4
                  have hdd0 : (0 : Int) ≤ (d : Int) := by omega
                  go_upto_region 24 with fail
                  go_quiet ((go_at_call 16; exact quiet_eq (C4.out _)))
                  go_wp2_with fail
                  go_meet
                  exact ⟨_, clk, false, rfl, rfl, MI.out.ext ((Ext.refl w4).drewN _), rfl⟩
              · have h4' : ((kd : Int) % 4) = 2 := by omega
                clear h4
                have LD := Lib.hid (clock_ok wc F g ws clk L a MC.out (by rw [hl.out]; omega) (by omega) (by omega) (by omega))
                go_wp2_with fail
                refine LD.out.mono ?_
                rintro e w4 ⟨rfl, hm⟩
                have MI := Lib.hid (MID.out ws clk _ w4 hm HWL.out (by have := hl.out; simp; omega) i4)
                obtain ⟨F4, m4, _⟩ := hm
                have C4 := Lib.hid (mcount_more w4 F4 g ws clk L _ l m4 hl.out)
                clear m4
                go_wp2_with fail
                refine C4.out.mono ?_
                rintro e w5 ⟨rfl, rfl⟩
                go_wp2_with fail
                go_meet
                exact ⟨ws, clk, false, rfl, rfl, MI.out, rfl⟩
              · have h4' : ((kd : Int) % 4) = 3 := by omega
                clear h4
                obtain ⟨tt, htt, htt2⟩ : ∃ tt : Nat, min (max t 0) 4611686018427387903 = (tt : Int) ∧ (tt : Int) ≤ 4611686018427387903 := ⟨(min (max t 0) 4611686018427387903).toNat, by omega, by omega⟩
                obtain ⟨T, hT, hT2, hT3⟩ : ∃ T : Nat, min ((clk : Int) + (tt : Int)) 4611686018427387903 = (T : Int) ∧ (T : Int) ≤ 4611686018427387903 ∧ (clk : Int) ≤ (T : Int) := ⟨(min ((clk : Int) + (tt : Int)) 4611686018427387903).toNat, by omega, by omega, by omega⟩
                have CL := Lib.hid (fun w => rclamp_any t w r6.2)
                have AD := Lib.hid (fun w => radd_any clk tt w i4 htt2)
                rw [htt] at CL
                rw [hT] at AD
                have HTT := Lib.hid htt; have HT := Lib.hid hT
                have hnlt : ¬ (T : Int) < (clk : Int) := by omega
                clear htt hT
                go_wp2_with fail
                refine (CL.out _).mono ?_
                rintro e w4 ⟨rfl, x4⟩
                have TK := Lib.hid (tick_ok w4 F g ws clk L tt (MC.out.ext x4) (by omega) htt2 (by omega) i4)
                rw [HT.out] at TK
                go_wp2_with fail
                refine TK.out.mono ?_
                rintro e w5 ⟨rfl, hm⟩
                have MI := Lib.hid (MID.out ws T L w5 (hm.back (GB.of_ext F x4) (fun i hi => .inl hi)) HWL.out (by have := hl.out; omega) hT2)
                obtain ⟨F4, m4, _⟩ := hm
                have M4 := Lib.hid m4
                obtain ⟨_, _, _, _, _, _, _, _, kp, _⟩ := MI.out
                have bp : w5.cell? ⟨P, 5, none⟩ = some (.int .i64 t) := blk_cell kp 5
                clear kp m4
                go_wp2_with fail
                refine (CL.out _).mono ?_
                rintro e w6 ⟨rfl, x6⟩
                go_wp2_with fail
                refine (AD.out _).mono ?_
                rintro e w7 ⟨rfl, x7⟩
                have C4 := Lib.hid (mcount_any w7 F4 g ws T L (M4.out.ext (x6.trans x7)))
                rw [hl.out] at C4
                go_wp2_with fail
                refine C4.out.mono ?_
                rintro e w8 ⟨rfl, rfl⟩
                go_wp2_with fail
                go_meet
                exact ⟨ws, T, false, rfl, rfl, MI.out.ext (x6.trans x7), rfl⟩
          case rest =>
            as_aux_lemma =>
              obtain ⟨ws', clk', dn, rfl, rfl, hM, hws⟩ := hcut
              have HM := Lib.hid hM; have HWS := Lib.hid hws
              clear hM hws p0 p1 p2 p3 p4 p5 MID CN MC KQ KPP
              have hwl' : ws'.length = n := by obtain ⟨_, _, _, h, _⟩ := HM.out; exact h
              have HWL' := Lib.hid hwl'
              clear hwl'
              go_wp2_with fail
              go_loopw [196] (fun i wr => ∃ (j : Nat) (W : List Nat), j ≤ n ∧ i = .int .i64 (j : Int) ∧ MidSt w g q P n (k + 1) (opObj kd a d old new t) clk' W ws' wr ∧ (∀ i, i < j → W[i]? = ws'[i]?) ∧ (∀ i, j ≤ i → W[i]? = ws[i]?)) (fun i _ => n - (intOf i).toNat)
              case atStart => exact ⟨0, ws, Nat.zero_le _, rfl, HM.out, fun i hi => by omega, fun _ _ => rfl⟩
              case round =>
                obtain ⟨j, W, hj, rfl, hI, q1, q2⟩ := hrel
                have HI := Lib.hid hI; have Q1 := Lib.hid q1; have Q2 := Lib.hid q2
                clear hI q1 q2
                by_cases hjn : j < n
                · obtain ⟨L2, F2, s1, s2, m, s3, s4, kq, kp, s5, s6, s7, s8, s9⟩ := HI.out
                  obtain ⟨y, hy⟩ : ∃ y, ws'[j]? = some y := ⟨_, List.getElem?_eq_getElem (by omega)⟩
                  obtain ⟨z, hz⟩ : ∃ z, W[j]? = some z := ⟨_, List.getElem?_eq_getElem (by omega)⟩
                  have hzs : ws[j]? = some z := by rw [← Q2.out j (Nat.le_refl _)]; exact hz
                  have WD := Lib.hid (word_ok wr F2 g ws' clk' L2 j y m hy)
                  have bz : wr.cell? ⟨q, j, none⟩ = some (.int .u64 (z : Int)) := (blk_cell kq j).trans (by simpa using vals_get hz)
                  have bf : wr.frozen? ⟨q, j, none⟩ = false := blk_frozen kq j
                  have b2 : wr.cell? ⟨P, 2, none⟩ = some (.int .i64 (d : Int)) := blk_cell kp 2
                  have b4 : wr.cell? ⟨P, 4, none⟩ = some (.int .u64 (new : Int)) := blk_cell kp 4
                  have NXT := Lib.hid (fun (h : y = z) (i : Nat) (hi : i < j + 1) => show W[i]? = ws'[i]? by
                    by_cases e : i = j
                    · rw [e, hz, hy, h]
                    · exact Q1.out i (by omega))
                  have NXT2 := Lib.hid (fun (i : Nat) (hi : j + 1 ≤ i) => show W[i]? = ws[i]? from Q2.out i (by omega))
                  have NXS := Lib.hid (fun (h : y = new) (i : Nat) (hi : i < j + 1) => show (W.set j new)[i]? = ws'[i]? by
                    by_cases e : i = j
                    · rw [e, List.getElem?_set_self (by omega), hy, h]
                    · rw [List.getElem?_set_ne (by omega)]; exact Q1.out i (by omega))
                  have NXS2 := Lib.hid (fun (i : Nat) (hi : j + 1 ≤ i) => show (W.set j new)[i]? = ws[i]? by rw [List.getElem?_set_ne (by omega)]; exact Q2.out i (by omega))
                  have HY := Lib.hid hy; have HZS := Lib.hid hzs
                  clear s1 s2 m s3 s4 kq kp s5 s6 s7 s8 s9 hy hz hzs
                  cases dn with
                  | false =>
                    obtain rfl : z = y := by
                      have h1 := HY.out
                      rw [HWS.out, if_neg (by simp), HZS.out] at h1
                      injection h1
                    go_wp2_with fail
                    refine WD.out.mono ?_
                    rintro e w5 ⟨rfl, rfl⟩
                    go_wp2_with fail
                    go_roundw
                    case rel => exact ⟨j + 1, W, hjn, by go_num, HI.out, NXT.out (by trivial), NXT2.out⟩
                    case measure => simp [intOf]; omega
                  | true =>
                    by_cases hjd : j = d
                    · subst hjd
                      obtain rfl : y = new := by
                        have h1 := HY.out
                        rw [HWS.out, if_pos rfl, List.getElem?_set_self (by have := HWL.out; omega)] at h1
                        injection h1 with h1
                        exact h1.symm
                      have ST := Lib.hid (MidSt.store (j := j) (y := y) HI.out)
                      go_wp2_with fail
                      refine WD.out.mono ?_
                      rintro e w5 ⟨rfl, rfl⟩
                      go_wp2_with fail
                      go_roundw
                      case rel => exact ⟨j + 1, _, hjn, by go_num, ST.out, NXS.out (by trivial), NXS2.out⟩
                      case measure => simp [intOf]; omega
                    · have hne : ((j : Int) == (d : Int)) = false := by rw [beq_eq_false_iff_ne]; omega
                      obtain rfl : z = y := by
                        have h1 := HY.out
                        rw [HWS.out, if_pos rfl, List.getElem?_set_ne (fun e => hjd e.symm), HZS.out] at h1
                        injection h1
                      clear hjd
                      go_wp2_with fail
                      refine WD.out.mono ?_
                      rintro e w5 ⟨rfl, rfl⟩
                      go_wp2_with fail
                      go_roundw
                      case rel => exact ⟨j + 1, W, hjn, by go_num, HI.out, NXT.out (by trivial), NXT2.out⟩
                      case measure => simp [intOf]; omega
                · have ONE := Lib.hid (one_of HI.out (fun i hi => Q1.out i (by omega)))
                  go_wp2_with fail
                  go_roundw
                  case rel => exact ⟨k + 1, clk', ws', hlt, h200, by go_num, rfl, ONE.out⟩
                  case measure => simp [intOf]; omega
      · go_wp2_with fail
        go_ret
        exact retTrue (hxr.alloc _)
    · have hxr : Ext w wr := by obtain ⟨_, _, _, _, _, _, _, _, _, x, _⟩ := hI; exact x
      clear hI
      go_wp2_with fail
      go_ret
      exact retTrue hxr
end Go.Proofs.Ytfjgpeffhbfihaa
