/- TopGivenBack answers true. -/
import Derived.Test.YtloidkmphigbdaaGreatBTopGivenBack12
import Derived.Test.YtloidkmphigbdaaGreatBTopGivenBack6
import Derived.Laws.StructEq
namespace Go.Proofs.YtloidkmphigbdaaGreat
open Go.RowKit

theorem CellsRd.gb {w w' : World} {A : Option Addr} {l : List PCell} {rs : List CRef} {S F : Nat → Prop} (h : CellsRd w A l rs) (g : GB w w' S) (hS : ∀ i, F i → ¬ S i) (hA : ∀ a, A = some a → F a.block) (hr : ∀ (i : Nat) (r : CRef), rs[i]? = some r → (∀ a, r.K = some a → F a.block) ∧ ∀ a, r.H = some a → F a.block) : CellsRd w' A l rs :=
  ⟨h.1, g.rd h.2.1 (fun a ha => hS _ (hA a ha)), fun i r c h1 h2 => by
    obtain ⟨a1, a2, a3, a4⟩ := h.2.2 i r c h1 h2
    exact ⟨a1, g.rd a2 (fun a ha => hS _ ((hr i r h1).1 a ha)), a3, g.rd a4 (fun a ha => hS _ ((hr i r h1).2 a ha))⟩⟩
set_option maxRecDepth 10000 in
theorem rep_eql (e : Int) (g : Bool) (l t s m : Int) (u : World) : (binOp .eql 39 (wrepV e g l t s m) (wrepV e g l t s m)).run Tryz.prog u = .ok (.bool true) u := by
  rw [run_eql_struct]
  rw [run_equalIn_agg u 9999 39 _ _ (by kernel_rfl) (by kernel_rfl)]
  simp only [Program.fieldsOf, Tryz.underlying39]
  go_simp
set_option maxHeartbeats 16000000 in
set_option maxRecDepth 100000 in
theorem topGivenBack_walk (w : World) (f : Nat) (hf : f < 256) (sc : Nat) (hsc : sc < 256) (A : Option Addr) (n c : Nat) (xs : List Nat) (hl : xs.length = n) (hb : ∀ x ∈ xs, x < 256) (hr : Rd w A (vals .u8 xs)) (hnc : n ≤ c) (hz : n ≤ 140737488351232) :
    Calls Tryz.prog 6 #[.int .u8 (f : Int), .int .u8 (sc : Int), .slice A n c] w (RetTrue w) := by
  have Hl := Lib.hid hl; have Hb := Lib.hid hb; have Hr := Lib.hid hr; clear hl hb hr
  obtain ⟨W, hW⟩ : ∃ W, (w.alloc (.cells #[.int .u8 2, .int .i64 0, .int .i64 0, .int .i64 64] 80)) = W := ⟨_, rfl⟩
  have xW : Ext w W := by rw [← hW]; exact (Ext.refl w).alloc _
  have RP := Lib.hid (show Rd W (some ⟨w.heap.size, 0, none⟩) (polsV P64) by rw [← hW]; exact rd_newk w [.int .u8 2, .int .i64 0, .int .i64 0, .int .i64 64] _ rfl)
  have DN := Lib.hid (show Calls Tryz.prog 18 #[.slice (some ⟨w.heap.size, 0, none⟩) 1 1, .int .i64 4] W (DaeNew W P64 4) from dnew_ok P64 (some ⟨w.heap.size, 0, none⟩) 1 1 4 W rfl (by omega) pol64 RP.out (by omega) (by omega))
  have XW := Lib.hid xW
  clear xW
  go_enter Tryz.func6, Tryz.ntmps6
  go_upto_region 1 with fail
  obtain ⟨nn, Hnn⟩ : ∃ nn : Nat, Hid (nn = min n 20) := ⟨_, Lib.hid rfl⟩
  have emin : min (n : Int) 20 = (nn : Int) := by have := Hnn.out; omega
  have hnn : nn ≤ 20 ∧ nn ≤ n := by have := Hnn.out; omega
  have hn1 : (0 : Int) ≤ (nn : Int) := by omega
  have hn2 : ¬ (c : Int) < (nn : Int) := by omega
  have hn3 : (nn : Int) ≤ (c : Int) := by omega
  go_wp2_with fail
  (try rw [hW])
  clear hW
  refine DN.out.mono ?_
  rintro e w1 ⟨gd, g, C0, xb0, L0, D0, rfl, hgP, hgr, hda, hL0, hx1, hge⟩
  have H1 := Lib.hid (show DaeIn w1 W.heap.size gd g 1 dInit (fun _ => False) from ⟨hx1.size, fun i e => e.elim, C0, xb0, L0, D0, hda, hL0, fun i hi => ⟨hge i hi, fun e => e.elim⟩⟩)
  have X1 := Lib.hid (XW.out.trans hx1); have XW1 := Lib.hid hx1
  have HgP := Lib.hid hgP; have Hgr := Lib.hid hgr
  clear hgP hgr hda hL0 hx1 hge DN
  go_upto_region 4 with fail
  obtain ⟨key, Hkey⟩ : ∃ key, Hid (xs.take nn = key) := ⟨_, Lib.hid rfl⟩
  have Hkl := Lib.hid (show key.length = nn by rw [← Hkey.out, List.length_take, Hl.out]; omega)
  have Hkb := Lib.hid (show ∀ x ∈ key, x < 256 from fun x hx => Hb.out x (List.mem_of_mem_take (by rw [Hkey.out]; exact hx)))
  have RK := Lib.hid (show Rd (w1.alloc (.cells #[] 5)) A (vals .u8 key) from fun hne => by
    have hr9 := Hr.out.ext (X1.out.alloc (.cells #[] 5))
    have hxs : vals .u8 xs ≠ [] := fun e => hne (by rw [← Hkey.out, vals_take, e]; simp)
    obtain ⟨bb, off, e, hc⟩ := hr9 hxs
    refine ⟨bb, off, e, fun j u hu => hc j u ?_⟩
    rw [← Hkey.out, vals_take] at hu
    rw [List.getElem?_take] at hu
    split at hu
    · exact hu
    · cases hu)
  have h0n : 0 + nn ≤ 140737488355328 := by omega
  go_wp2_with (at_builtin; refine app_u8 (w1.alloc (.cells #[] 5)) rfl (.tmp 36) (.tmp 41) rfl w1.heap.size rfl (own0 w1) rfl Hkl.out RK.out h0n (((Ext.refl w1).alloc _).size) ?_; intro B2 cb2 w2 o2 g2 b2; have O2 := Lib.hid o2; have G2 := Lib.hid g2; clear o2 g2 b2)
  -- the numbers
  obtain ⟨a, Ha⟩ : ∃ a : Nat, Hid (1 + f % 20 = a) := ⟨_, Lib.hid rfl⟩
  obtain ⟨b, Hb'⟩ : ∃ b : Nat, Hid (1 + sc % 20 = b) := ⟨_, Lib.hid rfl⟩
  have ea : (1 + (f : Int) % 20) = (a : Int) := by have := Ha.out; omega
  have eb : (1 + (sc : Int) % 20) = (b : Int) := by have := Hb'.out; omega
  rw [ea, eb]
  have ha : 1 ≤ a ∧ a ≤ 20 := by have := Ha.out; omega
  have hb : 1 ≤ b ∧ b ≤ 20 := by have := Hb'.out; omega
  clear ea eb emin hn1 hn2 hn3 h0n
  obtain ⟨bs, Hbs⟩ : ∃ bs, Hid (W.heap.size = bs) := ⟨_, Lib.hid rfl⟩
  rw [Hbs.out] at H1
  have hk : key.length ≤ 255 ∧ ∀ x ∈ key, x < 256 := ⟨by rw [Hkl.out]; omega, Hkb.out⟩
  obtain ⟨st3, st4, st6, v0, rs1, P1, P2, P3, P4, P5, P6, P7, P8, P9, P10, P11⟩ := given_plan HgP.out Hgr.out hk ha.1 ha.2 hb.1 hb.2
  have Q1 := Lib.hid P1; have Q2 := Lib.hid P2; have Q3 := Lib.hid P3; have Q4 := Lib.hid P4; have Q5 := Lib.hid P5; have Q6 := Lib.hid P6; have Q7 := Lib.hid P7; have Q8 := Lib.hid P8; have Q9 := Lib.hid P9; have Q10 := Lib.hid P10; have Q11 := Lib.hid P11; have HK := Lib.hid hk
  clear P1 P2 P3 P4 P5 P6 P7 P8 P9 P10 P11 hk
  -- the key's block
  have x12 : Ext w1 w2 := ((Ext.refl w1).alloc _).grown G2.out (fun q e => ((own0 w1).lt q e).1)
  obtain ⟨F1, HF1⟩ : ∃ F1 : Nat → Prop, Hid (F1 = fun i => w1.heap.size ≤ i ∧ i < w2.heap.size) := ⟨_, Lib.hid rfl⟩
  have H2 := Lib.hid (H1.out.more (F' := F1) x12 (fun i hi => by rw [HF1.out] at hi; exact .inr hi))
  have O2' : w2.ownsRow w1.heap.size 5 1 (.slice B2 nn cb2) nn (vals .u8 key) := by have := O2.out; rw [Nat.zero_add, List.nil_append] at this; exact this
  have KF := Lib.hid (show ∀ p, B2 = some p → F1 p.block from fun p hp => by
    obtain ⟨a1, a2, -⟩ := own_at_ge O2' p hp
    rw [HF1.out]
    exact ⟨a1, a2⟩)
  have R2 := Lib.hid (Rd.of_own O2')
  have X2 := Lib.hid (X1.out.trans x12)
  have hcap := own_cap O2'
  clear O2' O2 G2 x12 RK
  -- two connections
  have DC0 := Lib.hid (show Calls Tryz.prog 19 #[ptrV gd, .agg #[.int .u8 1, .int .i64 0, .slice none 0 0, .int .i64 0]] w2 (fun e w' => e = .returned (.int .i64 0) ∧ DaeIn w' bs gd g 2 { dInit with ls := upd1 dInit.ls 0 lnNew } F1 ∧ GB w2 w' (DWr bs F1)) from H2.out.do_ (by omega) (do_connect (g := g) (n := 0) (a := dInit) (by omega) rfl rfl))
  refine DC0.out.mono ?_
  rintro e w3 ⟨rfl, h3, g3⟩
  have H3 := Lib.hid h3; have G3 := Lib.hid g3
  clear h3 g3 DC0
  have DC1 := Lib.hid (show Calls Tryz.prog 19 #[ptrV gd, .agg #[.int .u8 1, .int .i64 1, .slice none 0 0, .int .i64 0]] w3 (fun e w' => e = .returned (.int .i64 0) ∧ DaeIn w' bs gd g 3 st2G F1 ∧ GB w3 w' (DWr bs F1)) from H3.out.do_ (by omega) (do_connect (g := g) (n := 1) (a := { dInit with ls := upd1 dInit.ls 0 lnNew }) (by omega) rfl rfl))
  go_wp2_with fail
  refine DC1.out.mono ?_
  rintro e w4 ⟨rfl, h4, g4⟩
  have H4 := Lib.hid h4; have G4 := Lib.hid (G3.out.trans g4 (fun i e => .inl e))
  clear h4 g4 DC1 H3 G3
  go_upto_region 9 with fail
  obtain ⟨W4, hW4⟩ : ∃ W4, (w4.alloc (.cells #[.int .u8 2, .int .i64 0, .slice B2 nn cb2, .int .i64 0] 34)) = W4 := ⟨_, rfl⟩
  have xW4 : Ext w4 W4 := by rw [← hW4]; exact (Ext.refl w4).alloc _
  have KC := Lib.hid (show W4.heap[w4.heap.size]? = some (.cells #[.int .u8 2, .int .i64 0, .slice B2 nn cb2, .int .i64 0] 34 (0, 0)) by rw [← hW4]; exact blk_new w4 _)
  (try rw [hW4])
  clear hW4
  obtain ⟨F2, HF2⟩ : ∃ F2 : Nat → Prop, Hid (F2 = fun i => F1 i ∨ i = w4.heap.size) := ⟨_, Lib.hid rfl⟩
  have H5 := Lib.hid (H4.out.more (F' := F2) xW4 (fun i hi => by
    rw [HF2.out] at hi
    rcases hi with e | e
    · exact .inl e
    · have := blk_lt KC.out; exact .inr ⟨by omega, by omega⟩))
  have F12 : ∀ i, F1 i → F2 i := fun i hi => by rw [HF2.out]; exact .inl hi
  have NC := Lib.hid (show ¬ DWr bs F2 w4.heap.size from fun e => e.2 (by rw [HF2.out]; exact .inr rfl))
  have KF2 := Lib.hid (show ∀ p, B2 = some p → ¬ DWr bs F2 p.block from fun p hp e => e.2 (F12 _ (KF.out p hp)))
  have R4 := Lib.hid ((G4.out.rd R2.out (fun p hp e => e.2 (KF.out p hp))).ext xW4)
  have S0 := Lib.hid (show Calls Tryz.prog 30 #[ptrV gd, .int .i64 0, .int .i64 (a : Int), .agg #[.int .u8 2, .int .i64 0, .slice B2 nn cb2, .int .i64 0]] W4 (fun e w' => e = .returned (.bool true) ∧ DaeIn w' bs gd g (3 + 600 * a) st3 F2 ∧ GB W4 w' (DWr bs F2)) from
    sends_ok W4 bs gd g 3 F2 0 a (cAcq key) st2G st3 B2 nn cb2 H5.out (by omega) (by omega) (by omega) Q1.out (norm_cAcq HK.out) Hkl.out R4.out (fun p hp => .inl (F12 _ (KF.out p hp))))
  have c0 : W4.cell? ⟨w4.heap.size, 0, none⟩ = some (.int .u8 2) := blk_cell KC.out 0
  have c1 : W4.cell? ⟨w4.heap.size, 1, none⟩ = some (.int .i64 0) := blk_cell KC.out 1
  have c2 : W4.cell? ⟨w4.heap.size, 2, none⟩ = some (.slice B2 nn cb2) := blk_cell KC.out 2
  have c3 : W4.cell? ⟨w4.heap.size, 3, none⟩ = some (.int .i64 0) := blk_cell KC.out 3
  have XW4 := Lib.hid xW4
  clear xW4
  go_wp2_with fail
  refine S0.out.mono ?_
  rintro e w5 ⟨rfl, h5, g5⟩
  have H6 := Lib.hid h5; have G6 := Lib.hid g5
  have k5 := g5.blk KC.out NC.out
  have d0 : w5.cell? ⟨w4.heap.size, 0, none⟩ = some (.int .u8 2) := blk_cell k5 0
  have d1 : w5.cell? ⟨w4.heap.size, 1, none⟩ = some (.int .i64 0) := blk_cell k5 1
  have d2 : w5.cell? ⟨w4.heap.size, 2, none⟩ = some (.slice B2 nn cb2) := blk_cell k5 2
  have d3 : w5.cell? ⟨w4.heap.size, 3, none⟩ = some (.int .i64 0) := blk_cell k5 3
  have R5 := Lib.hid (g5.rd R4.out (fun p hp => KF2.out p hp))
  have S1 := Lib.hid (show Calls Tryz.prog 30 #[ptrV gd, .int .i64 1, .int .i64 (b : Int), .agg #[.int .u8 2, .int .i64 0, .slice B2 nn cb2, .int .i64 0]] w5 (fun e w' => e = .returned (.bool true) ∧ DaeIn w' bs gd g (3 + 600 * a + 600 * b) st4 F2 ∧ GB w5 w' (DWr bs F2)) from
    sends_ok w5 bs gd g (3 + 600 * a) F2 1 b (cAcq key) st3 st4 B2 nn cb2 H6.out (by omega) (by omega) (by omega) Q2.out (norm_cAcq HK.out) Hkl.out R5.out (fun p hp => .inl (F12 _ (KF.out p hp))))
  clear c0 c1 c2 c3 k5 h5 g5 S0
  go_wp2_with fail
  refine S1.out.mono ?_
  rintro e w6 ⟨rfl, h6, g6⟩
  have H7 := Lib.hid h6; have G7 := Lib.hid (G6.out.trans g6 (fun i e => .inl e))
  have R6 := Lib.hid (g6.rd R5.out (fun p hp => KF2.out p hp))
  clear d0 d1 d2 d3 h6 g6 S1 H6 H5
  have hled0 := tokL_ok (lo := 1) (n := a) HK.out (by omega)
  have hled1 := tokL_ok (lo := a + 1) (n := b) HK.out (by omega)
  have LG0 := fun u (y : Ext w6 u) => (H7.out.ext y).ledger_ (n := 0) (s := sO (tokL key 1 a)) (by omega) (by rw [Q3.out]; show (1 : Nat) ≠ 0; omega) (by rw [Q3.out]; rfl) (by show (tokL key 1 a).length ≤ _; rw [tokL_len]; omega) (fun t ht => by have := (hled0.2 t ht).1; omega)
  have LG1 := fun u (y : Ext w6 u) => (H7.out.ext y).ledger_ (n := 1) (s := sO (tokL key (a + 1) b)) (by omega) (by rw [Q4.out]; show (1 : Nat) ≠ 0; omega) (by rw [Q4.out]; rfl) (by show (tokL key (a + 1) b).length ≤ _; rw [tokL_len]; omega) (fun t ht => by have := (hled1.2 t ht).1; omega)
  unfold LedR at LG0 LG1
  dsimp only [sO] at LG0 LG1
  rw [tokL_len] at LG0 LG1
  have HL0 := Lib.hid LG0; have HL1 := Lib.hid LG1
  clear LG0 LG1 hled0 hled1
  go_wp2_with fail
  refine (HL0.out w6 (Ext.refl w6)).mono ?_
  rintro e w7 ⟨A7, c7, k7, rfl, -, x7⟩
  have X7 := Lib.hid x7
  clear x7
  go_wp2_with fail
  refine (HL1.out w7 X7.out).mono ?_
  rintro e w8 ⟨A8, c8, k8, rfl, -, x8⟩
  have X8 := Lib.hid (X7.out.trans x8)
  clear x8
  go_wp2_with fail
  refine (HL0.out w8 X8.out).mono ?_
  rintro e w9 ⟨A9, c9, k9, rfl, hT, x9⟩
  have X9 := Lib.hid x9
  obtain ⟨F3, HF3⟩ : ∃ F3 : Nat → Prop, Hid (F3 = fun i => F2 i ∨ (w8.heap.size ≤ i ∧ i < w9.heap.size)) := ⟨_, Lib.hid rfl⟩
  have F23 : ∀ i, F2 i → F3 i := fun i hi => by rw [HF3.out]; exact .inl hi
  have H9 := Lib.hid ((H7.out.ext X8.out).more (F' := F3) x9 (fun i hi => by rw [HF3.out] at hi; exact hi))
  have LT := Lib.hid hT.rd
  obtain ⟨-, n1, n2⟩ := hT.at_new
  have LA := Lib.hid (show ∀ a, A9 = some a → F3 a.block from fun a ha => by rw [HF3.out]; exact .inr (n1 a ha))
  have LK := Lib.hid (show ∀ k ∈ k9, KeyIn F3 k from fun k hk a ha => by rw [HF3.out]; exact .inr (n2 k hk a ha))
  have R9 := Lib.hid (R6.out.ext (X8.out.trans x9))
  have KF3 := Lib.hid (show ∀ p, B2 = some p → F3 p.block from fun p hp => F23 _ (F12 _ (KF.out p hp)))
  have HNb := Lib.hid (show 3 + 600 * a + 600 * b ≤ 30000 by omega)
  clear hT x9 n1 n2 H7 R6 R4 R5
  obtain ⟨N9, HN9⟩ : ∃ N9, Hid (3 + 600 * a + 600 * b = N9) := ⟨_, Lib.hid rfl⟩
  rw [HN9.out] at H9
  have hN9 : N9 ≤ 30000 := by rw [← HN9.out]; exact HNb.out
  have DH := Lib.hid (show Calls Tryz.prog 19 #[ptrV gd, .agg #[.int .u8 4, .int .i64 0, .slice none 0 0, .int .i64 0]] w9 (fun e w' => e = .returned (.int .i64 0) ∧ DaeIn w' bs gd g (N9 + 1) { st4 with ls := upd1 st4.ls 0 (hangL (st4.ls 0)) } F3 ∧ GB w9 w' (DWr bs F3)) from H9.out.do_ (by omega) Q7.out)
  go_wp2_with fail
  refine DH.out.mono ?_
  rintro e w10 ⟨rfl, h10, g10⟩
  have H10 := Lib.hid h10; have G10 := Lib.hid g10
  clear h10 g10 DH
  go_wp2_with fail
  go_loopw [13] (fun v13 wr => ∃ (i : Nat) (st : DSt), i ≤ 3 * a + 1 ∧ v13 = .int .i64 (i : Int) ∧ DaeIn wr bs gd g (N9 + 1 + i) st F3 ∧ GB w9 wr (DWr bs F3) ∧ DRun g 0 (goneB 0) (3 * a + 1 - i) st st6) (fun v13 _ => 3 * a + 1 - (intOf v13).toNat)
  case atStart => exact ⟨0, _, Nat.zero_le _, rfl, H10.out, G10.out, Q8.out⟩
  case round =>
    obtain ⟨i, st, hi, rfl, hd, hg, hrun⟩ := hrel
    have HD := Lib.hid hd; have HG := Lib.hid hg
    clear hd hg
    have ST := Lib.hid (HD.out.state_ (n := 0) (by omega))
    by_cases hstop : (st.ls 0).st = 0
    · have h0 : 3 * a + 1 - i = 0 := by
        rcases Nat.eq_zero_or_pos (3 * a + 1 - i) with e | e
        · exact e
        · obtain ⟨p, hp⟩ : ∃ p, 3 * a + 1 - i = p + 1 := ⟨3 * a + 1 - i - 1, by omega⟩
          rw [hp] at hrun
          cases hrun with
          | step hs9 => exact absurd (of_decide_eq_false hs9) (fun h => h hstop)
      rw [h0] at hrun
      have est : st6 = st := by cases hrun; rfl
      subst est
      rw [hstop] at ST
      clear hrun h0
      go_wp2_with fail
      refine ST.out.mono ?_
      rintro e w11 ⟨rfl, rfl⟩
      clear ST
      have hnl : ([⟨0, key, 0, serL (1 + a) b⟩] : List PCell).length = 1 := rfl
      have CE := HD.out.cells_ Q10.out.1 [⟨0, key, 0, serL (1 + a) b⟩] Q10.out.2 (Nat.le_refl _) (fun e he => by
        rw [List.mem_singleton.1 he]
        exact ⟨by show key.length ≤ _; rw [Hkl.out]; omega, by show (serL (1 + a) b).length ≤ _; rw [serL_len]; omega⟩)
      unfold CopyR at CE
      rw [hnl] at CE
      have CEh := Lib.hid CE
      clear CE hnl
      go_wp2_with fail
      refine CEh.out.mono ?_
      rintro e w12 ⟨A12, c12, k12, rfl, hC, x12⟩
      obtain ⟨F4, HF4⟩ : ∃ F4 : Nat → Prop, Hid (F4 = fun i => F3 i ∨ (wr.heap.size ≤ i ∧ i < w12.heap.size)) := ⟨_, Lib.hid rfl⟩
      have H12 := Lib.hid (HD.out.more (F' := F4) x12 (fun i hi => by rw [HF4.out] at hi; exact hi))
      have CR := Lib.hid hC.rd
      have CF := Lib.hid (show (∀ a, A12 = some a → F4 a.block) ∧ ∀ (i : Nat) (r : CRef), k12[i]? = some r → (∀ a, r.K = some a → F4 a.block) ∧ ∀ a, r.H = some a → F4 a.block from by
        rw [HF4.out]
        refine ⟨fun p hp => ?_, fun i r hr => ?_⟩
        · obtain ⟨a1, a2, -⟩ := own_at_ge hC.2.2.1 p hp
          exact .inr ⟨a1, a2⟩
        · have hi : i < 1 := by have := (List.getElem?_eq_some_iff.1 hr).1; rw [hC.1] at this; exact this
          obtain rfl : i = 0 := by omega
          obtain ⟨-, b1, b2⟩ := hC.2.2.2 0 r _ hr rfl
          exact ⟨fun p hp => .inr ⟨(b1 p hp).1, (b1 p hp).2.1⟩, fun p hp => .inr ⟨(b2 p hp).1, (b2 p hp).2.1⟩⟩)
      obtain ⟨bq, oq, rq, rfl, hrq, m0, m1, m2, m3, -, -, -, hheld⟩ := hC.rd.at_ (i := 0) (c := ⟨0, key, 0, serL (1 + a) b⟩) rfl
      dsimp only at m3
      rw [serL_len, Nat.zero_mul, Nat.add_zero] at m3
      have HH := Lib.hid hheld
      have X12 := Lib.hid x12
      have HM3 := Lib.hid m3
      clear hC x12 CEh m0 m1 m2 hheld
      go_wp2_with fail
      have hled1 := tokL_ok (lo := a + 1) (n := b) HK.out (by omega)
      have LG1 := H12.out.ledger_ (n := 1) (s := sO (tokL key (a + 1) b)) (by omega) (by rw [Q9.out]; show (1 : Nat) ≠ 0; omega) (by rw [Q9.out]; rfl) (by show (tokL key (a + 1) b).length ≤ _; rw [tokL_len]; omega) (fun t ht => by have := (hled1.2 t ht).1; omega)
      unfold LedR at LG1
      dsimp only [sO] at LG1
      rw [tokL_len] at LG1
      have HL2 := Lib.hid LG1
      clear LG1 hled1
      refine HL2.out.mono ?_
      rintro e w13 ⟨A13, c13, k13, rfl, hT, x13⟩
      have LT13 := Lib.hid hT.rd; have X13 := Lib.hid x13
      have LT2 := Lib.hid (TokRd.ext (⟨LT.out.1, HG.out.rd LT.out.2.1 (fun a ha e => e.2 (LA.out a ha)), LT.out.2.2.gbk LK.out HG.out (fun b hb e => e.2 hb)⟩ : TokRd wr A9 (tokL key 1 a) k9) (X12.out.trans x13))
      have R13 := Lib.hid ((HG.out.rd R9.out (fun p hp e => e.2 (KF3.out p hp))).ext (X12.out.trans x13))
      clear hT x13 HL2
      go_wp2_with fail
      go_loopw [128] (fun v128 wx => ∃ (j : Nat), j ≤ b ∧ v128 = .int .i64 (j : Int) ∧ Ext w13 wx) (fun v128 _ => b - (intOf v128).toNat)
      case atStart => exact ⟨0, Nat.zero_le _, rfl, Ext.refl w13⟩
      case round =>
        obtain ⟨j, hj, rfl, hx⟩ := hrel
        have HX := Lib.hid hx
        by_cases hlt : j < b
        · have hji : (j : Int) < (b : Int) := by omega
          have hix : (0 : Int) ≤ (j : Int) ∧ (j : Int) < (b : Int) := ⟨by omega, by omega⟩
          obtain ⟨bt, ot, Kt, ct, hAt, -, t0, t1, t2, -, -⟩ := (LT13.out.ext hx).at_ (i := j) (t := ⟨0, key, ((a + 1 + j : Nat) : Int)⟩) (by unfold tokL; rw [List.getElem?_map, List.getElem?_range hlt]; rfl)
          dsimp only at t0 t1 t2
          rw [Hkl.out] at t1
          obtain ⟨bh, oh, hH, -, e9⟩ := (HH.out.ext (X13.out.trans hx)).atI (j := j) (by rw [serL_len]; exact hlt)
          rw [serL_getD hlt, show 1 + a + j = a + 1 + j by omega] at e9
          have e3 := ext_cell (X13.out.trans hx) HM3.out
          rw [hH] at e3
          subst hAt
          obtain ⟨sj, Hsj⟩ : ∃ z : Int, Hid (((a + 1 + j : Nat) : Int) = z) := ⟨_, Lib.hid rfl⟩
          rw [Hsj.out] at t2 e9
          have hadd : IntKind.i64.wrap ((j : Int) + 1) = ((j + 1 : Nat) : Int) := by rw [IntKind.wrap_i64]; omega
          have hi1 : (0 : Int) ≤ 0 ∧ (0 : Int) < ((1 : Nat) : Int) := ⟨by omega, by omega⟩
          clear hx hH
          go_upto_region 25 with fail
          obtain ⟨W5, hW5⟩ : ∃ W5, (wr.alloc (.cells #[.int .i64 0, .slice Kt nn ct, .int .i64 sj] 120)) = W5 := ⟨_, rfl⟩
          have x5 : Ext wr W5 := by rw [← hW5]; exact (Ext.refl wr).alloc _
          have k5 := Lib.hid (show W5.heap[wr.heap.size]? = some (.cells #[.int .i64 0, .slice Kt nn ct, .int .i64 sj] 120 (0, 0)) by rw [← hW5]; exact blk_new wr _)
          (try rw [hW5])
          clear hW5
          have f3 := ext_cell x5 e3; have f9 := ext_cell x5 e9
          have ft : W5.cell? ⟨wr.heap.size, 2, none⟩ = some (.int .i64 sj) := blk_cell k5.out 2
          have X5 := Lib.hid x5
          have bne : (sj != sj) = false := by simp
          clear x5 e3 e9 t0 t1 t2
          go_region
          go_wp2_with fail
          go_roundw
          case rel => exact ⟨j + 1, hlt, by go_num, (HX.out.trans X5.out).drew⟩
          case measure => simp [intOf]; omega
        · have hji : ¬ (j : Int) < (b : Int) := by omega
          obtain rfl : j = b := by omega
          clear hx
          obtain ⟨ix, Hix⟩ : ∃ ix : Nat, Hid (sc % a = ix) := ⟨_, Lib.hid rfl⟩
          have hixa : ix < a := by rw [← Hix.out]; exact Nat.mod_lt _ (by omega)
          have emod : (sc : Int) % (a : Int) = (ix : Int) := by rw [← Hix.out]; rfl
          have hixb : (0 : Int) ≤ (ix : Int) ∧ (ix : Int) < (a : Int) := ⟨by omega, by omega⟩
          obtain ⟨bt, ot, Kt, ct, hAt, hkm, t0, t1, t2, hct, hrk⟩ := (LT2.out.ext HX.out).at_ (i := ix) (t := ⟨0, key, ((1 + ix : Nat) : Int)⟩) (by unfold tokL; rw [List.getElem?_map, List.getElem?_range hixa]; rfl)
          dsimp only at t0 t1 t2 hct hrk
          rw [Hkl.out] at t1 hct
          subst hAt
          have KT := Lib.hid (LK.out _ (List.mem_of_getElem? hkm)); have HRK := Lib.hid hrk
          have ha0 : ¬ (a : Int) = 0 := by omega
          clear hkm hrk
          obtain ⟨tn, Htn⟩ : ∃ tn, Hid (1 + ix = tn) := ⟨_, Lib.hid rfl⟩
          rw [Htn.out] at t2
          have htn : 1 ≤ tn ∧ tn ≤ a := by have := Htn.out; omega
          obtain ⟨st7, S1, S2, S3⟩ := Q11.out tn htn.1 htn.2
          have HS1 := Lib.hid S1; have HS2 := Lib.hid S2; have HS3 := Lib.hid S3
          clear S1 S2 S3
          go_upto_region 29 with fail
          obtain ⟨W14, hW14⟩ : ∃ W14, (wr.alloc (.cells #[.int .i64 0, .slice Kt nn ct, .int .i64 (tn : Int)] 120)) = W14 := ⟨_, rfl⟩
          have x14 : Ext wr W14 := by rw [← hW14]; exact (Ext.refl wr).alloc _
          have KT14 := Lib.hid (show W14.heap[wr.heap.size]? = some (.cells #[.int .i64 0, .slice Kt nn ct, .int .i64 (tn : Int)] 120 (0, 0)) by rw [← hW14]; exact blk_new wr _)
          (try rw [hW14])
          clear hW14 t0 t1 t2 emod
          have X14 := Lib.hid x14
          obtain ⟨F5, HF5⟩ : ∃ F5 : Nat → Prop, Hid (F5 = fun i => F4 i ∨ i = wr.heap.size) := ⟨_, Lib.hid rfl⟩
          have F45 : ∀ i, F4 i → F5 i := fun i hi => by rw [HF5.out]; exact .inl hi
          have F34 : ∀ i, F3 i → F4 i := fun i hi => by rw [HF4.out]; exact .inl hi
          obtain ⟨N5, HN5⟩ : ∃ N5, Hid (N9 + 1 + i = N5) := ⟨_, Lib.hid rfl⟩
          have hN5 : N5 ≤ 40000 := by rw [← HN5.out]; omega
          have H14 := Lib.hid ((H12.out.ext (X13.out.trans HX.out)).more (F' := F5) x14 (fun i hi => by
            rw [HF5.out] at hi
            rcases hi with e | e
            · exact .inl e
            · have := blk_lt KT14.out; exact .inr ⟨by omega, by omega⟩))
          rw [HN5.out] at H14
          have KF5 := Lib.hid (show ∀ p, B2 = some p → F5 p.block from fun p hp => F45 _ (F34 _ (KF3.out p hp)))
          have R14 := Lib.hid (R13.out.ext (HX.out.trans x14))
          have NT := Lib.hid (show ¬ DWr bs F5 wr.heap.size from fun e => e.2 (by rw [HF5.out]; exact .inr rfl))
          have SR := Lib.hid (show Calls Tryz.prog 30 #[ptrV gd, .int .i64 1, .int .i64 1, .agg #[.int .u8 3, .int .i64 0, .slice B2 nn cb2, .int .i64 (tn : Int)]] W14 (fun e w' => e = .returned (.bool true) ∧ DaeIn w' bs gd g (N5 + 600 * 1) st7 F5 ∧ GB W14 w' (DWr bs F5)) from
            sends_ok W14 bs gd g N5 F5 1 1 (cRel key tn) st6 st7 B2 nn cb2 H14.out (by omega) (by omega) (by omega) HS1.out (norm_cRel HK.out htn.1 (by omega)) Hkl.out R14.out (fun p hp => .inl (KF5.out p hp)))
          have g2 : W14.cell? ⟨wr.heap.size, 2, none⟩ = some (.int .i64 (tn : Int)) := blk_cell KT14.out 2
          clear x14
          go_wp2_with fail
          refine SR.out.mono ?_
          rintro e w15 ⟨rfl, h15, g15⟩
          have H15 := Lib.hid h15; have G15 := Lib.hid g15
          have kt := g15.blk KT14.out NT.out
          have KT15 := Lib.hid kt
          have g0 : w15.cell? ⟨wr.heap.size, 0, none⟩ = some (.int .i64 0) := blk_cell kt 0
          have g1 : w15.cell? ⟨wr.heap.size, 1, none⟩ = some (.slice Kt nn ct) := blk_cell kt 1
          have g2 : w15.cell? ⟨wr.heap.size, 2, none⟩ = some (.int .i64 (tn : Int)) := blk_cell kt 2
          clear h15 g15 kt SR
          have hrs2 : ∀ r ∈ rs1 ++ [errR 11], RepOk r := fun r hr => by
            rcases List.mem_append.1 hr with hr | hr
            · exact Q5.out r hr
            · rw [List.mem_singleton.1 hr]
              exact ⟨(show (11 : Nat) ≤ 16 by omega), ⟨Int.le_refl 0, by show (0 : Int) ≤ 4611686018427387903; omega⟩, ⟨Int.le_refl 0, by show (0 : Int) ≤ 4611686018427387903; omega⟩, ⟨Int.le_refl 0, by show (0 : Int) ≤ 4611686018427387903; omega⟩, ⟨Int.le_refl 0, by show (0 : Int) ≤ 4611686018427387903; omega⟩⟩
          have hrl : (rs1 ++ [errR 11]).length = j + 1 := by rw [List.length_append, Q6.out]; rfl
          have RE := replies_ok w15 bs gd g (N5 + 600 * 1) 1 st7 F5 (rs1 ++ [errR 11]) H15.out (by omega) (by rw [HS2.out]; rfl) hrs2 (by rw [hrl]; omega)
          unfold RepsR at RE
          rw [hrl] at RE
          have REh := Lib.hid RE; have HRS := Lib.hid hrs2; have HRL := Lib.hid hrl
          clear RE hrs2 hrl
          go_wp2_with fail
          refine REh.out.mono ?_
          rintro e w16 ⟨B16, c16, rfl, ho16, x16⟩
          have RR16 := Lib.hid (rd_of_own_s ho16); have X16 := Lib.hid x16
          have KT5 := Lib.hid (show ∀ p, Kt = some p → ¬ DWr bs F5 p.block from fun p hp e => e.2 (F45 _ (F34 _ (KT.out p hp))))
          have EN := tokEncode_ok w16 0 tn Kt nn ct key Hkl.out Hkb.out ((G15.out.rd (HRK.out.ext X14.out) (fun p hp => KT5.out p hp)).ext x16) htn.1 (by omega) (by omega) (by omega)
          unfold RetBE at EN
          rw [tokB_len, Hkl.out] at EN
          have ENh := Lib.hid (show Calls Tryz.prog 32 #[.agg #[.int .i64 0, .slice Kt nn ct, .int .i64 (tn : Int)]] w16 _ from EN)
          have g0 := ext_cell x16 g0; have g1 := ext_cell x16 g1; have g2 := ext_cell x16 g2
          clear ho16 x16 EN REh
          go_wp2_with fail
          refine ENh.out.mono ?_
          rintro e w17 ⟨A17, c17, rfl, ho17, x17⟩
          have DE := decode_ok w17 0 tn nn A17 (nn + 16) c17 key Hkl.out rfl Hkb.out (Rd.of_own ho17) (own_cap ho17) htn.1 (by omega) (by omega) (by omega)
          unfold RetTok at DE
          rw [Hkl.out] at DE
          have DEh := Lib.hid DE; have X17 := Lib.hid x17
          have g2 := ext_cell x17 g2
          clear ho17 x17 DE ENh g0 g1
          go_wp2_with fail
          refine DEh.out.mono ?_
          rintro e w18 ⟨A18, c18, rfl, -, x18⟩
          have g2 := ext_cell x18 g2
          have X68 := Lib.hid (X17.out.trans x18)
          have X18 := Lib.hid (X16.out.trans X68.out)
          clear x18 DEh
          go_upto_region 34 with fail
          obtain ⟨W18, hW18⟩ : ∃ W18, (w18.alloc (.cells #[.int .i64 0, .slice A18 nn c18, .int .i64 (tn : Int)] 120)) = W18 := ⟨_, rfl⟩
          have xW18 : Ext w18 W18 := by rw [← hW18]; exact (Ext.refl w18).alloc _
          have e2 : W18.cell? ⟨w18.heap.size, 2, none⟩ = some (.int .i64 (tn : Int)) := by rw [← hW18]; exact blk_cell (blk_new w18 _) 2
          (try rw [hW18])
          clear hW18
          have g2 := ext_cell xW18 g2
          have X1518 := Lib.hid (X18.out.trans xW18)
          obtain ⟨bw, ow, hB16, hcw⟩ := (RR16.out.ext (X68.out.trans xW18)) (fun e => by rw [repsV_snoc] at e; simp [repV] at e)
          have hfg := fun k (hk : k < 6) => flat_get (fun r : KRep => (repV r).toList) 6 (rs1 ++ [errR 11]) (fun _ _ => rfl) j (errR 11) (by rw [List.getElem?_append_right (by rw [Q6.out]; exact Nat.le_refl _), Q6.out, Nat.sub_self]; rfl) k hk
          have r0 : W18.cell? ⟨bw, ow + j * 6, none⟩ = some (.int .i64 11) := by have := hcw _ _ (hfg 0 (by omega)); rw [Nat.add_zero] at this; exact this
          have r1 : W18.cell? ⟨bw, ow + j * 6 + 1, none⟩ = some (.bool false) := by have := hcw _ _ (hfg 1 (by omega)); rw [← Nat.add_assoc] at this; exact this
          have r2 : W18.cell? ⟨bw, ow + j * 6 + 2, none⟩ = some (.int .i64 0) := by have := hcw _ _ (hfg 2 (by omega)); rw [← Nat.add_assoc] at this; exact this
          have r3 : W18.cell? ⟨bw, ow + j * 6 + 3, none⟩ = some (.int .i64 0) := by have := hcw _ _ (hfg 3 (by omega)); rw [← Nat.add_assoc] at this; exact this
          have r4 : W18.cell? ⟨bw, ow + j * 6 + 4, none⟩ = some (.int .i64 0) := by have := hcw _ _ (hfg 4 (by omega)); rw [← Nat.add_assoc] at this; exact this
          have r5 : W18.cell? ⟨bw, ow + j * 6 + 5, none⟩ = some (.int .i64 0) := by have := hcw _ _ (hfg 5 (by omega)); rw [← Nat.add_assoc] at this; exact this
          subst hB16
          have hreq := fun u => rep_eql 11 false 0 0 0 0 u
          have hjx : (0 : Int) ≤ (j : Int) ∧ (j : Int) < ((j + 1 : Nat) : Int) := ⟨by omega, by omega⟩
          have hjx2 : (0 : Int) ≤ (j : Int) ∧ (j : Int) < (j : Int) + 1 := ⟨by omega, by omega⟩
          have hjw : IntKind.i64.wrap ((j : Int) + 1) = ((j + 1 : Nat) : Int) := by rw [IntKind.wrap_i64]; omega
          have hjb : (((j + 1 : Nat) : Int) == ((j + 1 : Nat) : Int)) = true := by simp
          have htb : ((tn : Int) == (tn : Int)) = true := by simp
          -- the cells once more
          have CE := (H15.out.ext X1518.out).cells_ HS3.out.1 [⟨0, key, 0, serL (1 + a) j⟩] HS3.out.2 (Nat.le_refl _) (fun e he => by
            rw [List.mem_singleton.1 he]
            exact ⟨by show key.length ≤ _; rw [Hkl.out]; omega, by show (serL (1 + a) j).length ≤ _; rw [serL_len]; omega⟩)
          unfold CopyR at CE
          rw [show ([⟨0, key, 0, serL (1 + a) j⟩] : List PCell).length = 1 from rfl] at CE
          have CEh := Lib.hid CE
          have CR15 := Lib.hid (CellsRd.gb (F := F4) (CR.out.ext ((X13.out.trans HX.out).trans X14.out)) G15.out (fun i hi e => e.2 (F45 i hi)) CF.out.1 CF.out.2)
          clear CE hcw hfg
          go_wp2_with fail
          refine CEh.out.mono ?_
          rintro e w19 ⟨A19, c19, k19, rfl, hC19, x19⟩
          have g2 := ext_cell x19 g2; have e2 := ext_cell x19 e2
          have RD19 := Lib.hid hC19.rd
          have X19 := Lib.hid x19
          clear hC19 x19 CEh
          have SM := cellsSame_true w19 A19 (some ⟨bq, oq, none⟩) 1 c19 c12 [⟨0, key, 0, serL (1 + a) j⟩] k19 k12 rfl (by omega) (fun t ht => by
            rw [List.mem_singleton.1 ht]
            exact ⟨by show key.length ≤ _; rw [Hkl.out]; omega, HK.out.2, by show (serL (1 + a) j).length ≤ _; rw [serL_len]; omega⟩) RD19.out (CR15.out.ext (X1518.out.trans X19.out))
          have SM := Lib.hid SM
          go_wp2_with fail
          refine SM.out.mono ?_
          rintro e w20 ⟨rfl, qd, rfl⟩
          have g2 : (w19.drewN qd).cell? ⟨wr.heap.size, 2, none⟩ = some (.int .i64 (tn : Int)) := g2
          have e2 : (w19.drewN qd).cell? ⟨w18.heap.size, 2, none⟩ = some (.int .i64 (tn : Int)) := e2
          clear SM
          go_wp2_with fail
          go_ret
          have HB := Lib.hid (show w.heap.size ≤ bs by rw [← Hbs.out]; exact XW.out.size)
          have z2 := X2.out
          have z4 := GB.to_ext G4.out z2 (fun i hi => Nat.le_trans HB.out hi.1)
          have z6 := GB.to_ext G7.out (z4.trans XW4.out) (fun i hi => Nat.le_trans HB.out hi.1)
          have z9 := z6.trans (X8.out.trans X9.out)
          have z10 := GB.to_ext HG.out z9 (fun i hi => Nat.le_trans HB.out hi.1)
          have z14 := z10.trans ((X12.out.trans X13.out).trans (HX.out.trans X14.out))
          have z15 := GB.to_ext G15.out z14 (fun i hi => Nat.le_trans HB.out hi.1)
          exact ⟨rfl, (z15.trans (X1518.out.trans X19.out)).drewN qd⟩
    · have hne : 3 * a + 1 - i ≠ 0 := fun e => by
        rw [e] at hrun
        cases hrun with
        | done hs9 => exact hstop (of_decide_eq_true hs9)
      obtain ⟨p, hp⟩ : ∃ p, 3 * a + 1 - i = p + 1 := ⟨3 * a + 1 - i - 1, by omega⟩
      rw [hp] at hrun
      have hp1 : 3 * a + 1 - (i + 1) = p := by omega
      have HP1 := Lib.hid hp1
      have hiq : i < 3 * a + 1 := by omega
      obtain ⟨z, Hz⟩ : ∃ z, Hid ((st.ls 0).st = z) := ⟨_, Lib.hid rfl⟩
      rw [Hz.out] at hstop ST
      have bz : ((z : Int) != 0) = true := by rw [bne_iff_ne]; omega
      clear hp hp1 hne
      cases hrun with
      | @step _ _ st2 _ _ hdo hrest =>
        have HRE9 := Lib.hid hrest
        have DO := Lib.hid (show Calls Tryz.prog 19 #[ptrV gd, .agg #[.int .u8 3, .int .i64 0, .slice none 0 0, .int .i64 0]] wr (fun e w' => e = .returned (.int .i64 0) ∧ DaeIn w' bs gd g (N9 + 1 + i + 1) st2 F3 ∧ GB wr w' (DWr bs F3)) from HD.out.do_ (by omega) hdo)
        have hm1 : IntKind.i64.wrap ((a : Int) + 1) = ((a + 1 : Nat) : Int) := by rw [IntKind.wrap_i64]; omega
        have h512 : ¬ (512 * ((a : Int) + 1)) < (i : Int) := by omega
        have h512d : decide ((512 * ((a : Int) + 1)) < (i : Int)) = false := decide_eq_false h512
        have hadd : IntKind.i64.wrap ((i : Int) + 1) = ((i + 1 : Nat) : Int) := by rw [IntKind.wrap_i64]; omega
        clear hdo hrest hstop
        go_wp2_with fail
        refine ST.out.mono ?_
        rintro e w11 ⟨rfl, rfl⟩
        clear ST
        go_wp2_with fail
        refine DO.out.mono ?_
        rintro e w11 ⟨rfl, h11, g11⟩
        have H11 := Lib.hid h11; have G11 := Lib.hid (HG.out.trans g11 (fun i e => .inl e))
        clear h11 g11 DO
        go_wp2_with fail
        go_roundw
        case rel => exact ⟨i + 1, st2, by omega, by go_num, by rw [show N9 + 1 + (i + 1) = N9 + 1 + i + 1 by omega]; exact H11.out, G11.out, by rw [HP1.out]; exact HRE9.out⟩
        case measure => simp [intOf]; omega
end Go.Proofs.YtloidkmphigbdaaGreat
