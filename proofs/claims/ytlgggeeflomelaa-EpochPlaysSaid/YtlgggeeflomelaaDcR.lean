/- EpochPlays where both are nil. -/
import Derived.Test.YtlgggeeflomelaaDcQ
import Derived.Test.YtlgggeeflomelaaEpPick
import Derived.Test.YtlgggeeflomelaaFrame
import Derived.Deep.LoopGhost
import Derived.Deep.CutBlock
import Derived.Deep.RegionHeld3
import Derived.Deep.DeepCutAuto
import Derived.Deep.QuietTactic
namespace Go.Proofs.Ytlgggeeflomelaa
open Go.RowKit

theorem nil_step (who : Int) : ∃ (dn : Bool) (er nu : Int) (A1 : Option Addr) (q1 : Nat), A1 = none ∧ (∀ u, Calls Try.prog 18 #[.pointer none, .int .i64 who] u (RetE (.tuple #[.agg #[.bool dn, .int .i64 er, .int .i64 nu, .slice A1 0 q1], .int .i64 1]) u)) ∧ ∀ u, Calls Try.prog 25 #[.pointer none, .int .i64 who] u (RetE (.tuple #[.agg #[.bool dn, .int .i64 er, .int .i64 nu, .slice A1 0 q1], .int .i64 1]) u) :=
  ⟨false, 0, 0, none, 0, rfl, fun u => estep_nil u who, fun u => dstep_nil u who⟩
set_option maxHeartbeats 8000000 in
set_option maxRecDepth 100000 in
theorem epochPlays_nil (w : World) (n : Int) (hn : n < 1 ∨ 64 < n) (A : Option Addr) (m c : Nat) (R : List (List Int)) (hl : R.length = m) (hk : RecsOk epickKs R) (hr : Rd w A (R.flatMap (recVals epickKs))) (_hz : m ≤ 8796093021952) :
    Calls Try.prog 6 #[.int .i64 n, .slice A m c] w (RetTrue w) := by
  have Hl := Lib.hid hl; have Hk := Lib.hid hk; have Hr := Lib.hid hr; have Hn := Lib.hid hn
  clear hl hk hr hn
  go_enter Try.func6, Try.ntmps6
  go_wp2_with fail
  refine (epAwake w).mono ?_
  rintro e w1 ⟨rfl, hx1⟩
  go_wp2_with fail
  refine (enew_bad n w1 Hn.out).mono ?_
  rintro e w2 ⟨rfl, rfl⟩
  go_wp2_with fail
  refine (docnew_bad n w1 Hn.out).mono ?_
  rintro e w3 ⟨rfl, rfl⟩
  have h0 := Lib.hid hx1
  go_upto_block 0 with fail
  go_cut [] (fun wd => Ext w wd)
  case first =>
    go_wp2_with fail
    go_loopw [42] (fun i wr => ∃ k : Nat, k ≤ m ∧ k ≤ 400 ∧ i = .int .i64 (k : Int) ∧ Ext w wr) (fun i _ => m - (intOf i).toNat)
    case atStart => exact ⟨0, Nat.zero_le _, by omega, rfl, h0.out⟩
    case round =>
      obtain ⟨k, hk, hk4, rfl, hI⟩ := hrel
      have HI := Lib.hid hI
      by_cases hlt : k < m
      · obtain ⟨r, hr⟩ : ∃ r, R[k]? = some r := ⟨_, List.getElem?_eq_getElem (by rw [Hl.out]; exact hlt)⟩
        obtain ⟨who, op, th, rfl, hwho, hop, hth⟩ := epick_row Hk.out hr
        obtain ⟨b, off, hA, _, c0, c1, c2⟩ := epick_cells (Hr.out.ext hI) Hk.out hr
        subst hA
        clear hI hr
        by_cases h400 : k < 400
        · obtain ⟨W, hW⟩ : ∃ W, wr.alloc (.cells #[.int .i64 who, .int .u8 (op : Int), .int .i64 th] 29) = W := ⟨_, rfl⟩
          have xW : Ext wr W := by rw [← hW]; exact (Ext.refl wr).alloc _
          have KP := Lib.hid (show W.heap[wr.heap.size]? = some (.cells #[.int .i64 who, .int .u8 (op : Int), .int .i64 th] 29 (0, 0)) by rw [← hW]; exact blk_new wr _)
          have e0 : W.cell? ⟨wr.heap.size, 0, none⟩ = some (.int .i64 who) := blk_cell KP.out 0
          have e1 : W.cell? ⟨wr.heap.size, 1, none⟩ = some (.int .u8 (op : Int)) := blk_cell KP.out 1
          have e2 : W.cell? ⟨wr.heap.size, 2, none⟩ = some (.int .i64 th) := blk_cell KP.out 2
          go_upto_if 51 with fail
          (try rw [hW])
          clear hW c0 c1 c2
          go_cut [11, 12, 13, 14, 15] (fun _ _ _ _ _ wd => Ext W wd)
          case first =>
            by_cases hop0 : op = 0
            · subst hop0
              obtain ⟨dn, er, nu, A1, q1, hA1, hA, hB⟩ := nil_step who
              have HA := Lib.hid hA; have HB := Lib.hid hB; have HA1 := Lib.hid hA1
              clear hA hB hA1
              go_wp2_with fail
              refine (HA.out W).mono ?_
              rintro e w4 ⟨rfl, x4⟩
              have K4 := Lib.hid (blk_ext KP.out x4)
              have b0 : (w4.alloc (.cells #[.bool dn, .int .i64 er, .int .i64 nu, .slice A1 0 q1] 36)).cell? ⟨wr.heap.size, 0, none⟩ = some (.int .i64 who) := cell_past (blk_cell K4.out 0) _
              have X4 := Lib.hid x4
              clear x4 e0 e1 e2
              go_wp2_with fail
              refine (HB.out _).mono ?_
              rintro e w5 ⟨rfl, x5⟩
              have R5 := Lib.hid (blk_ext (blk_new w4 (.cells #[.bool dn, .int .i64 er, .int .i64 nu, .slice A1 0 q1] 36 (0, 0))) x5)
              obtain ⟨V, hV⟩ : ∃ V, w5.alloc (.cells #[.bool dn, .int .i64 er, .int .i64 nu, .slice A1 0 q1] 52) = V := ⟨_, rfl⟩
              have xV : Ext w5 V := by rw [← hV]; exact (Ext.refl w5).alloc _
              have RV := Lib.hid (blk_ext R5.out xV)
              have SV := Lib.hid (show V.heap[w5.heap.size]? = some (.cells #[.bool dn, .int .i64 er, .int .i64 nu, .slice A1 0 q1] 52 (0, 0)) by rw [← hV]; exact blk_new w5 _)
              have u0 := blk_cell RV.out 0; have u1 := blk_cell RV.out 1; have u2 := blk_cell RV.out 2; have u3 := blk_cell RV.out 3
              have v0 := blk_cell SV.out 0; have v1 := blk_cell SV.out 1; have v2 := blk_cell SV.out 2; have v3 := blk_cell SV.out 3
              have X5 := Lib.hid (((X4.out.alloc _).trans x5).trans xV)
              clear x5 b0
              go_upto_region 16 with fail
              (try rw [hV])
              clear hV
              go_wp2_with fail
              refine (esame_ok V dn er nu A1 A1 0 q1 q1 [] rfl (by omega) (fun h => absurd rfl h) (fun h => absurd rfl h)).mono ?_
              rintro e w6 ⟨rfl, x6⟩
              have r3 := blk_cell (blk_ext RV.out x6) 3
              have X6 := Lib.hid (X5.out.trans x6)
              clear u0 u1 u2 u3 v0 v1 v2 v3
              go_wp2_with fail
              go_loopw [95] (fun i wv => i = .int .i64 0 ∧ Ext W wv) (fun i _ => 0)
              case atStart => exact ⟨rfl, X6.out⟩
              case round =>
                obtain ⟨rfl, hx⟩ := hrel
                go_wp2_with fail
                go_meet
                exact hx
            · have hop1 : ((op : Int) != 0) = true := by rw [bne_iff_ne]; omega
              have HA := Lib.hid (fun u => estart_nil u who th op hop); have HB := Lib.hid (fun u => dstart_nil u who th op hop)
              have d0 : W.drew.cell? ⟨wr.heap.size, 0, none⟩ = some (.int .i64 who) := e0
              have d1 : W.drew.cell? ⟨wr.heap.size, 1, none⟩ = some (.int .u8 (op : Int)) := e1
              have d2 : W.drew.cell? ⟨wr.heap.size, 2, none⟩ = some (.int .i64 th) := e2
              have XD := Lib.hid (Ext.refl W).drew
              clear hop0
              go_upto_region 12 with fail
              go_region_held3 (fun w' => w'.cell? ⟨wr.heap.size, 0, none⟩ = some (.int .i64 who) ∧ w'.cell? ⟨wr.heap.size, 1, none⟩ = some (.int .u8 (op : Int)) ∧ w'.cell? ⟨wr.heap.size, 2, none⟩ = some (.int .i64 th))
                (((try go_split_ands); refine ⟨?_, ?_, ?_⟩ <;> first | assumption | (with_reducible exact d0) | (with_reducible exact d1) | (with_reducible exact d2)))
                (first
                  | (go_at_call 16; (with_reducible refine (HA.out W.drew).mono ?_); rintro e w4 ⟨rfl, rfl⟩)
                  | (go_at_call 24; (with_reducible refine (HB.out W.drew).mono ?_); rintro e w4 ⟨rfl, rfl⟩))
              all_goals
                go_wp2_with fail
                go_meet
                exact XD.out
          case rest =>
            have HX := Lib.hid (HI.out.trans (xW.trans hcut))
            have g0 := ext_cell hcut e0
            clear hcut e0 e1 e2
            go_wp2_with fail
            refine (eheld_nil wc who).mono ?_
            rintro e w7 ⟨rfl, rfl⟩
            have SM := Lib.hid (fun u : World => sameN_any none none 0 0 0 0 [] [] u rfl rfl (by omega) (fun h => absurd rfl h) (fun h => absurd rfl h))
            rw [same_self] at SM
            go_upto_region 24 with fail
            go_quiet ((first
              | (go_at_call 19; exact quiet_eq (epend_nil _ who))
              | (go_at_call 27; exact quiet_eq (dpend_nil _ who))
              | (go_at_call 15; exact quiet_eq (epinned_nil _ who))
              | (go_at_call 28; exact quiet_eq (dpinned_nil _ who))
              | (go_at_call 17; exact quiet_eq (eepoch_nil _))
              | (go_at_call 29; exact quiet_eq (depoch_nil _))
              | (go_at_call 30; exact quiet_eq (dheld_nil _ who))
              | (go_at_call 21; exact quiet_q (SM.out _))))
            obtain ⟨U, hU⟩ : ∃ U, wc.drewN nq = U := ⟨_, rfl⟩
            have HU := Lib.hid (show Ext w U by rw [← hU]; exact HX.out.drewN nq)
            (try rw [hU])
            clear hU g0
            go_wp2_with fail
            go_loopw [145] (fun i wv => i = .int .i64 0 ∧ Ext w wv) (fun i _ => 0)
            case atStart => exact ⟨rfl, HU.out⟩
            case round =>
              obtain ⟨rfl, hx⟩ := hrel
              go_wp2_with fail
              go_roundw
              case rel => exact ⟨k + 1, hlt, h400, by go_num, hx⟩
              case measure => simp [intOf]; omega
        · go_wp2_with fail
          go_meet
          exact HI.out.alloc _
      · clear hI
        go_wp2_with fail
        go_meet
        exact HI.out
  case rest =>
    have HX := Lib.hid hcut
    clear hcut
    go_wp2_with fail
    go_ret
    exact retTrue HX.out
end Go.Proofs.Ytlgggeeflomelaa
