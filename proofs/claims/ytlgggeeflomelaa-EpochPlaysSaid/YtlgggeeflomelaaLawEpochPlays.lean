/- EpochPlays answers true. -/
import Derived.Test.YtlgggeeflomelaaDcR
import Derived.Test.YtlgggeeflomelaaEpPick
import Derived.Test.YtlgggeeflomelaaFrame
import Derived.Deep.LoopGhost
import Derived.Deep.CutBlock
import Derived.Deep.RegionHeld3
import Derived.Deep.DeepCutAuto
import Derived.Deep.QuietTactic
namespace Go.Proofs.Ytlgggeeflomelaa
open Go.RowKit

theorem bothe_open {w0 W : World} {gx gk n k N : Nat} {f1 f2 : FuncId} {a1 a2 : Array Value} {q : Int} (h : BothE w0 gx gk n k N f1 f2 a1 a2 q W) : Calls Try.prog f1 a1 W fun e w1 => e = .returned (.int .i64 q) ∧ GB W w1 (· < N) ∧ ∀ u, Ext w1 u → Calls Try.prog f2 a2 u fun e w2 => e = .returned (.int .i64 q) ∧ GB u w2 (· < N) ∧ PlaysE w0 gx gk n k w2 := h
theorem PlaysE.up {w0 w : World} {gx gk n k : Nat} (h : PlaysE w0 gx gk n k w) : PlaysE w0 gx gk n (k + 1) w := by
  obtain ⟨F, G, s, d, h1, h2, h3, h4, h5⟩ := h
  exact ⟨F, G, s, d, h1.more (Nat.le_succ k), h2, h3, dbd_more h4, h5⟩
theorem own_max {w : World} {base : Nat} {e : TypeId} {z : Nat} {A : Option Addr} {n c : Nat} {xs : List Value} (h : w.ownsRow base e z (.slice A n c) n xs) : n ≤ 9223372036854775807 := by
  rcases h.2 with ⟨_, rfl⟩ | ⟨g, cap, cur, h1, h2, h3, h4, h5, _⟩
  · omega
  · unfold maxLen at h5
    omega
/-- a list that is none of theirs and may be written over -/
def OvAt (w0 : World) (gx gk n k base : Nat) (A : Option Addr) (m q : Nat) (w : World) : Prop := ∃ vs, w.ownsRow base 3 1 (.slice A m q) m vs ∧ PlaysX w0 gx gk n k (fun i => (Value.slice A m q).ownBlock = some i) w
theorem OvAt.ext {w0 w w' : World} {gx gk n k base : Nat} {A : Option Addr} {m q : Nat} (h : OvAt w0 gx gk n k base A m q w) (x : Ext w w') : OvAt w0 gx gk n k base A m q w' := by
  obtain ⟨vs, h1, h2⟩ := h
  exact ⟨vs, own_ext h1 x, h2.ext x⟩
theorem ov_step {w0 w : World} {gx gk n k base : Nat} {A : Option Addr} {m q j : Nat} (h : OvAt w0 gx gk n k base A m q w) (hj : j < m) (hb : w0.heap.size ≤ base) :
    ∃ b v, A = some ⟨b, 0, none⟩ ∧ base ≤ b ∧ w.cell? ⟨b, j, none⟩ = some v ∧ w.frozen? ⟨b, j, none⟩ = false ∧ ∀ u, OvAt w0 gx gk n k base A m q (w.setCell ⟨b, j, none⟩ u) := by
  obtain ⟨vs, h1, h2⟩ := h
  obtain ⟨b, rfl, hbb, _⟩ := own_block h1 (by omega)
  have hl : vs.length = m := by have := h1.1; omega
  obtain ⟨v, hv⟩ : ∃ v, vs[j]? = some v := ⟨_, List.getElem?_eq_getElem (by omega)⟩
  refine ⟨b, v, rfl, hbb, (h1.cellAt j (by omega)).trans hv, h1.frozenAt j, fun u => ⟨vs.set j u, (h1.stored j u).1, h2.far ((GB.refl w _).set b j u (.inl rfl)) (fun i e => ?_)⟩⟩
  have := (h1.lt i e).1
  omega
set_option maxHeartbeats 8000000 in
set_option maxRecDepth 100000 in
theorem epochPlays_ok (w : World) (n : Nat) (hn1 : 1 ≤ n) (hn2 : n ≤ 64) (A : Option Addr) (m c : Nat) (R : List (List Int)) (hl : R.length = m) (hk : RecsOk epickKs R) (hr : Rd w A (R.flatMap (recVals epickKs))) (_hz : m ≤ 8796093021952) :
    Calls Try.prog 6 #[.int .i64 (n : Int), .slice A m c] w (RetTrue w) := by
  have Hl := Lib.hid hl; have Hk := Lib.hid hk; have Hr := Lib.hid hr
  clear hl hk hr
  go_enter Try.func6, Try.ntmps6
  go_wp2_with fail
  refine (epAwake w).mono ?_
  rintro e w1 ⟨rfl, hx1⟩
  go_wp2_with fail
  refine (ein_new n w w1 hx1 hn1 hn2).mono ?_
  rintro e w2 ⟨gx, F2, rfl, h2, _⟩
  have H2 := Lib.hid h2
  clear h2
  go_wp2_with fail
  refine (docnew_ok n w2 hn1 hn2).mono ?_
  rintro e w3 ⟨gk, G, rfl, h3, x3, hG⟩
  have h0 := Lib.hid (plays_new H2.out x3 h3 hG)
  clear h3 hG x3
  go_upto_block 0 with fail
  go_cut [] (fun wd => Ext w wd)
  case first =>
    go_wp2_with fail
    go_loopw [42] (fun i wr => ∃ k : Nat, k ≤ m ∧ k ≤ 400 ∧ i = .int .i64 (k : Int) ∧ PlaysE w gx gk n k wr) (fun i _ => m - (intOf i).toNat)
    case atStart => exact ⟨0, Nat.zero_le _, by omega, rfl, h0.out⟩
    case round =>
      obtain ⟨k, hk, hk4, rfl, hI⟩ := hrel
      by_cases hlt : k < m
      · obtain ⟨r, hr⟩ : ∃ r, R[k]? = some r := ⟨_, List.getElem?_eq_getElem (by rw [Hl.out]; exact hlt)⟩
        obtain ⟨who, op, th, rfl, hwho, hop, hth⟩ := epick_row Hk.out hr
        obtain ⟨b, off, hA, _, c0, c1, c2⟩ := epick_cells (Hr.out.ext hI.out) Hk.out hr
        subst hA
        have HI := Lib.hid hI
        clear hI hr
        by_cases h400 : k < 400
        · obtain ⟨W, hW⟩ : ∃ W, wr.alloc (.cells #[.int .i64 who, .int .u8 (op : Int), .int .i64 th] 29) = W := ⟨_, rfl⟩
          have xW : Ext wr W := by rw [← hW]; exact (Ext.refl wr).alloc _
          have KP := Lib.hid (show W.heap[wr.heap.size]? = some (.cells #[.int .i64 who, .int .u8 (op : Int), .int .i64 th] 29 (0, 0)) by rw [← hW]; exact blk_new wr _)
          have e0 : W.cell? ⟨wr.heap.size, 0, none⟩ = some (.int .i64 who) := blk_cell KP.out 0
          have e1 : W.cell? ⟨wr.heap.size, 1, none⟩ = some (.int .u8 (op : Int)) := blk_cell KP.out 1
          have e2 : W.cell? ⟨wr.heap.size, 2, none⟩ = some (.int .i64 th) := blk_cell KP.out 2
          go_upto_if 51 with fail
          (try rw [hW])
          clear hW c0 c1 c2
          go_cut [11, 12, 13, 14, 15] (fun _ _ _ _ _ wd => PlaysE w gx gk n (k + 1) wd ∧ wd.heap[wr.heap.size]? = some (.cells #[.int .i64 who, .int .u8 (op : Int), .int .i64 th] 29 (0, 0)))
          case first =>
            by_cases hop0 : op = 0
            · subst hop0
              have hst := plays_step w wr W gx gk n k who HI.out xW (by omega)
              have HST : Hid (StepBoth w gx gk n k wr.heap.size who W) := Lib.hid hst
              clear hst
              go_wp2_with fail
              refine Calls.mono HST.out ?_
              rintro e w4 ⟨dn, er, nu, xs, A1, m1, q1, last, rfl, g4, o4, h4⟩
              have K4 := Lib.hid (g4.blk KP.out (Nat.lt_irrefl _))
              obtain ⟨T, hT⟩ : ∃ T, w4.alloc (.cells #[.bool dn, .int .i64 er, .int .i64 nu, .slice A1 m1 q1] 36) = T := ⟨_, rfl⟩
              have xT : Ext w4 T := by rw [← hT]; exact (Ext.refl w4).alloc _
              have KT := Lib.hid (blk_ext K4.out xT)
              have RT := Lib.hid (show T.heap[w4.heap.size]? = some (.cells #[.bool dn, .int .i64 er, .int .i64 nu, .slice A1 m1 q1] 36 (0, 0)) by rw [← hT]; exact blk_new w4 _)
              have b0 : T.cell? ⟨wr.heap.size, 0, none⟩ = some (.int .i64 who) := blk_cell KT.out 0
              have H4 := Lib.hid (h4 T xT)
              have L4 := Lib.hid (show wr.heap.size < w4.heap.size from blk_lt K4.out)
              have O4 := Lib.hid (own_ext o4 xT)
              have LT4 := Lib.hid (fun i e => (o4.lt i e).2)
              clear h4 g4 e0 e1 e2 o4
              go_upto_region 15 with fail
              (try rw [hT])
              clear hT
              go_wp2_with fail
              refine H4.out.mono ?_
              rintro e w5 ⟨A2, q2, rfl, g5, o5, h5⟩
              have K5 := Lib.hid (g5.blk KT.out (Nat.lt_irrefl _))
              have R5 := Lib.hid (g5.blk RT.out (fun e => by have := L4.out; omega))
              have O5 := Lib.hid (show w5.ownsRow W.heap.size 3 1 (.slice A1 m1 q1) m1 (ivals xs) from g5.own O4.out (fun i e h => by have := (O4.out.lt i e).1; have := xW.size; have : i < wr.heap.size := h; omega))
              have H5 := Lib.hid h5
              have P5 := Lib.hid o5
              obtain ⟨V, hV⟩ : ∃ V, w5.alloc (.cells #[.bool dn, .int .i64 er, .int .i64 nu, .slice A2 m1 q2] 52) = V := ⟨_, rfl⟩
              have xV : Ext w5 V := by rw [← hV]; exact (Ext.refl w5).alloc _
              have RV := Lib.hid (blk_ext R5.out xV)
              have SV := Lib.hid (show V.heap[w5.heap.size]? = some (.cells #[.bool dn, .int .i64 er, .int .i64 nu, .slice A2 m1 q2] 52 (0, 0)) by rw [← hV]; exact blk_new w5 _)
              have u0 := blk_cell RV.out 0; have u1 := blk_cell RV.out 1; have u2 := blk_cell RV.out 2; have u3 := blk_cell RV.out 3
              have v0 := blk_cell SV.out 0; have v1 := blk_cell SV.out 1; have v2 := blk_cell SV.out 2; have v3 := blk_cell SV.out 3
              have hm1 := own_max O5.out
              have SA := Lib.hid (esame_ok V dn er nu A1 A2 m1 q1 q2 xs (own_len_iv O5.out) hm1 (own_rd (own_ext O5.out xV)) (own_rd (own_ext P5.out xV)))
              clear h5 g5 b0 o5
              go_upto_region 16 with fail
              (try rw [hV])
              clear hV
              go_wp2_with fail
              refine SA.out.mono ?_
              rintro e w6 ⟨rfl, x6⟩
              have R6 := Lib.hid (blk_ext RV.out x6)
              have r3 := blk_cell R6.out 3
              have OV := Lib.hid (show OvAt w gx gk n (k + 1) W.heap.size A1 m1 q1 w6 from ⟨_, own_ext O5.out (xV.trans x6), H5.out.ext (xV.trans x6)⟩)
              have K6 := Lib.hid (blk_ext K5.out (xV.trans x6))
              clear u0 u1 u2 u3 v0 v1 v2 v3
              have hwW : w.heap.size ≤ W.heap.size := Nat.le_trans HI.out.out.size xW.size
              have LW : wr.heap.size < W.heap.size := blk_lt KP.out
              go_wp2_with fail
              go_loopw [95] (fun i wv => ∃ j : Nat, j ≤ m1 ∧ i = .int .i64 (j : Int) ∧ OvAt w gx gk n (k + 1) W.heap.size A1 m1 q1 wv ∧ wv.heap[w4.heap.size]? = some (.cells #[.bool dn, .int .i64 er, .int .i64 nu, .slice A1 m1 q1] 36 (0, 0)) ∧ wv.heap[wr.heap.size]? = some (.cells #[.int .i64 who, .int .u8 0, .int .i64 th] 29 (0, 0))) (fun i _ => m1 - (intOf i).toNat)
              case atStart => exact ⟨0, Nat.zero_le _, rfl, OV.out, R6.out, K6.out⟩
              case round =>
                obtain ⟨j, hj, rfl, hov, hr, hp⟩ := hrel
                by_cases hjl : j < m1
                · obtain ⟨b9, v9, hb9, hge, c9, f9, hput⟩ := ov_step hov hjl hwW
                  subst hb9
                  have n1 : w4.heap.size ≠ b9 := fun e => by have := LT4.out b9 rfl; omega
                  have y3 := blk_cell hr 3
                  have PU := Lib.hid (hput (.int .i64 99))
                  have hr' := Lib.hid (blk_grown hr (grown_set wr b9 j (.int .i64 99)) n1)
                  have hp' := Lib.hid (blk_grown hp (grown_set wr b9 j (.int .i64 99)) (by omega))
                  clear hput hov hr hp
                  go_wp2_with fail
                  go_roundw
                  case rel => exact ⟨j + 1, hjl, by go_num, PU.out, hr'.out, hp'.out⟩
                  case measure => simp [intOf]; omega
                · go_wp2_with fail
                  go_meet
                  obtain ⟨vs, _, hx⟩ := hov
                  exact ⟨hx.plays, hp⟩
            · have hop1 : ((op : Int) != 0) = true := by rw [bne_iff_ne]; omega
              obtain ⟨q, hA, hB⟩ := plays_start w wr W.drew gx gk n k who th op HI.out xW.drew hop (by omega)
              have HA := Lib.hid (bothe_open hA); have HB := Lib.hid (bothe_open hB)
              have d0 : W.drew.cell? ⟨wr.heap.size, 0, none⟩ = some (.int .i64 who) := e0
              have d1 : W.drew.cell? ⟨wr.heap.size, 1, none⟩ = some (.int .u8 (op : Int)) := e1
              have d2 : W.drew.cell? ⟨wr.heap.size, 2, none⟩ = some (.int .i64 th) := e2
              have KD : Hid (W.drew.heap[wr.heap.size]? = some (.cells #[.int .i64 who, .int .u8 (op : Int), .int .i64 th] 29 (0, 0))) := Lib.hid KP.out
              clear hA hB hop0
              go_upto_region 12 with fail
              go_region_held3 (fun w' => w'.cell? ⟨wr.heap.size, 0, none⟩ = some (.int .i64 who) ∧ w'.cell? ⟨wr.heap.size, 1, none⟩ = some (.int .u8 (op : Int)) ∧ w'.cell? ⟨wr.heap.size, 2, none⟩ = some (.int .i64 th))
                (((try go_split_ands); refine ⟨?_, ?_, ?_⟩ <;> first | assumption | (with_reducible exact t0) | (with_reducible exact t1) | (with_reducible exact t2) | (with_reducible exact s0) | (with_reducible exact s1) | (with_reducible exact s2) | (with_reducible exact d0) | (with_reducible exact d1) | (with_reducible exact d2)))
                (first
                  | (go_at_call 16; (with_reducible refine HA.out.mono ?_); rintro e w4 ⟨rfl, g4, h4⟩; have K4 := Lib.hid (g4.blk KD.out (Nat.lt_irrefl _)); have H4 := Lib.hid (h4 w4 (Ext.refl w4)); have t0 := blk_cell K4.out 0; have t1 := blk_cell K4.out 1; have t2 := blk_cell K4.out 2; clear h4 g4)
                  | (go_at_call 24; (with_reducible refine HB.out.mono ?_); rintro e w4 ⟨rfl, g4, h4⟩; have K4 := Lib.hid (g4.blk KD.out (Nat.lt_irrefl _)); have H4 := Lib.hid (h4 w4 (Ext.refl w4)); have t0 := blk_cell K4.out 0; have t1 := blk_cell K4.out 1; have t2 := blk_cell K4.out 2; clear h4 g4)
                  | ((with_reducible refine H4.out.mono ?_); rintro e w5 ⟨rfl, g5, h5⟩; have K5 := Lib.hid (g5.blk K4.out (Nat.lt_irrefl _)); have H5 := Lib.hid h5; have s0 := blk_cell K5.out 0; have s1 := blk_cell K5.out 1; have s2 := blk_cell K5.out 2; clear h5 g5))
              all_goals
                go_wp2_with fail
                go_meet
                exact ⟨H5.out.up, K5.out⟩
          case rest =>
            obtain ⟨hI2, hK2⟩ := hcut
            obtain ⟨xs, hxl, hH⟩ := plays_held w wc gx gk n (k + 1) who hI2 (by omega)
            obtain ⟨bp, hbp⟩ := plays_pend w wc gx gk n (k + 1) who hI2
            obtain ⟨bq, hbq⟩ := plays_pinned w wc gx gk n (k + 1) who hI2
            obtain ⟨ep, hep⟩ := plays_epoch w wc gx gk n (k + 1) hI2 (by omega)
            have HI2 := Lib.hid hI2
            have HH := Lib.hid hH; have HP := Lib.hid hbp; have HQ := Lib.hid hbq; have HE := Lib.hid hep
            have e0 : wc.cell? ⟨wr.heap.size, 0, none⟩ = some (.int .i64 who) := blk_cell hK2 0
            clear hI2 hH hbp hbq hep
            go_wp2_with fail
            refine (HH.out wc (Ext.refl wc)).1.mono ?_
            rintro e w7 ⟨A3, c3, rfl, o7, x7⟩
            have e7 := ext_cell x7 e0
            obtain ⟨m3, hm3⟩ : ∃ m3, xs.length = m3 := ⟨_, rfl⟩
            rw [hm3] at o7
            have hm3l : m3 ≤ 1000000 := by rw [← hm3]; exact hxl
            have SM := Lib.hid (fun (u : World) (x : Ext w7 u) (A4 : Option Addr) (c4 : Nat) (hr : Rd u A4 (ivals xs)) => sameN_any A3 A4 m3 c3 m3 c4 xs xs u hm3 hm3 (own_max o7) ((own_rd o7).ext x) hr)
            rw [same_self] at SM
            have HH2 := Lib.hid (fun (u : World) (x : Ext wc u) => show Calls Try.prog 30 #[.pointer (some ⟨gk + 1, 0, none⟩), .int .i64 who] u (fun e w' => ∃ A c, e = .returned (.slice A m3 c) ∧ w'.ownsRow u.heap.size 3 1 (.slice A m3 c) m3 (ivals xs) ∧ Ext u w') by rw [← hm3]; exact (HH.out u x).2)
            have X7 := Lib.hid x7
            have O7 := Lib.hid o7
            have HM3 := Lib.hid hm3
            have K7 := Lib.hid (blk_ext hK2 x7)
            clear x7 o7 e0 hK2
            obtain ⟨wc1, hwc1⟩ : ∃ wc1 : World, Hid (wc = wc1) := ⟨_, Lib.hid rfl⟩
            rw [hwc1.out] at X7 O7 HI2 HP HQ HE HH2
            go_upto_region 24 with fail
            (try rw [hm3])
            clear hm3
            go_cut [142] (fun v wd => v = .bool false ∧ OvAt w gx gk n (k + 1) wc1.heap.size A3 m3 c3 wd)
            case first =>
              go_region_held3 (fun w' => w'.cell? ⟨wr.heap.size, 0, none⟩ = some (.int .i64 who))
                ((first | assumption | (with_reducible exact drew_cell e7) | (with_reducible exact e8) | (with_reducible exact e9)))
                (first
                  | (go_at_call 19; (with_reducible refine (HP.out w7.drew X7.out.drew).1.mono ?_); rintro e wz ⟨rfl, rfl⟩)
                  | (go_at_call 27; (with_reducible refine (HP.out w7.drew X7.out.drew).2.mono ?_); rintro e wz ⟨rfl, rfl⟩)
                  | (go_at_call 15; (with_reducible refine (HQ.out w7.drew X7.out.drew).1.mono ?_); rintro e wz ⟨rfl, rfl⟩)
                  | (go_at_call 28; (with_reducible refine (HQ.out w7.drew X7.out.drew).2.mono ?_); rintro e wz ⟨rfl, rfl⟩)
                  | (go_at_call 17; (with_reducible refine (HE.out w7.drew X7.out.drew).1.mono ?_); rintro e wz ⟨rfl, rfl⟩)
                  | (go_at_call 29; (with_reducible refine (HE.out w7.drew X7.out.drew).2.mono ?_); rintro e wz ⟨rfl, rfl⟩)
                  | (go_at_call 30; (with_reducible refine (HH2.out w7.drew X7.out.drew).mono ?_); rintro e w8 ⟨A4, c4, rfl, o8, x8⟩; have O8 := Lib.hid o8; have e8 := ext_cell x8 (drew_cell e7); have X8 := Lib.hid x8; clear o8 x8)
                  | (go_at_call 21; (with_reducible refine (SM.out w8 ((Ext.refl w7).drew.trans X8.out) A4 c4 (own_rd O8.out)).mono ?_); rintro e w9 ⟨rfl, q9, hw9⟩; have X9 : Hid (Ext w7 w9) := Lib.hid (by rw [hw9]; exact ((Ext.refl w7).drew.trans X8.out).drewN q9); have e9 := ext_cell X9.out e7; clear hw9))
              all_goals
                go_wp2_with fail
                go_meet
                exact ⟨rfl, _, own_ext O7.out X9.out, (HI2.out.x (fun i e => (O7.out.lt i e).1)).ext (X7.out.trans X9.out)⟩
            case rest =>
              obtain ⟨rfl, hov⟩ := hcut
              have hwc : w.heap.size ≤ wc1.heap.size := HI2.out.out.size
              have HOV := Lib.hid hov
              clear hov e7
              go_wp2_with fail
              go_loopw [145] (fun i wv => ∃ j : Nat, j ≤ m3 ∧ i = .int .i64 (j : Int) ∧ OvAt w gx gk n (k + 1) wc1.heap.size A3 m3 c3 wv) (fun i _ => m3 - (intOf i).toNat)
              case atStart => exact ⟨0, Nat.zero_le _, rfl, HOV.out⟩
              case round =>
                obtain ⟨j, hj, rfl, hov⟩ := hrel
                by_cases hjl : j < m3
                · obtain ⟨b9, v9, hb9, hge, c9, f9, hput⟩ := ov_step hov hjl hwc
                  subst hb9
                  have PU := Lib.hid (hput (.int .i64 98))
                  clear hput hov
                  go_wp2_with fail
                  go_roundw
                  case rel => exact ⟨j + 1, hjl, by go_num, PU.out⟩
                  case measure => simp [intOf]; omega
                · go_wp2_with fail
                  go_roundw
                  case rel => exact ⟨k + 1, hlt, h400, by go_num, by obtain ⟨vs, _, hx⟩ := hov; exact hx.plays⟩
                  case measure => simp [intOf]; omega
        · go_wp2_with fail
          go_meet
          exact (HI.out.ext ((Ext.refl wr).alloc _)).out
      · have HI := Lib.hid hI
        clear hI
        go_wp2_with fail
        go_meet
        exact HI.out.out
  case rest =>
    have HX := Lib.hid hcut
    clear hcut
    go_wp2_with fail
    go_ret
    exact retTrue HX.out
theorem epochPlays_walk (w : World) (n : Int) (_ : -9223372036854775808 ≤ n) (_ : n ≤ 9223372036854775807) (A : Option Addr) (m c : Nat) (R : List (List Int)) (hl : R.length = m) (hk : RecsOk epickKs R) (hr : Rd w A (R.flatMap (recVals epickKs))) (_hnc : m ≤ c) (hz : m ≤ 8796093021952) :
    Calls Try.prog 6 #[.int .i64 n, .slice A m c] w (RetTrue w) := by
  by_cases h : n < 1 ∨ 64 < n
  · exact epochPlays_nil w n h A m c R hl hk hr hz
  · obtain ⟨v, rfl⟩ : ∃ v : Nat, n = (v : Int) := ⟨n.toNat, by omega⟩
    exact epochPlays_ok w v (by omega) (by omega) A m c R hl hk hr hz
end Go.Proofs.Ytlgggeeflomelaa
