/- CountHolds answers true. -/
import Derived.Test.YtfjgpeffhbfihaaHldC
import Derived.Test.YtfjgpeffhbfihaaFrame
import Derived.Deep.LoopGhost
import Derived.Deep.CutBlock
import Derived.BigQuiet
namespace Go.Proofs.Ytfjgpeffhbfihaa
open Go.RowKit

set_option maxHeartbeats 8000000 in
set_option maxRecDepth 100000 in
theorem countHolds_walk (w : World) (n0 : Nat) (hn0 : n0 < 256) (A : Option Addr) (m c : Nat) (R : List (List Int)) (hl : R.length = m) (hk : RecsOk pickKs R) (hr : Rd w A (R.flatMap (recVals pickKs))) (_hnc : m ≤ c) (_hz : m ≤ 8796093021952) :
    Calls Try.prog 7 #[.int .u8 (n0 : Int), .slice A m c] w (RetTrue w) := by
  have Hl := Lib.hid hl; have Hk := Lib.hid hk; have Hr := Lib.hid hr
  clear hl hk hr
  obtain ⟨lim, hlim⟩ : ∃ lim, n0 % 5 = lim := ⟨_, rfl⟩
  have hl4 : (lim : Int) ≤ 4 := by omega
  have hli : (n0 : Int) % 5 = (lim : Int) := by omega
  clear hlim
  go_enter Try.func7, Try.ntmps7
  go_wp2_with fail
  refine (cntAwake w).mono ?_
  rintro e w1 ⟨rfl, hx1⟩
  obtain ⟨gp, hgp⟩ : ∃ gp, w1.heap.size = gp := ⟨_, rfl⟩
  have hgw : w.heap.size ≤ gp := by have := hx1.size; omega
  go_wp2_with fail
  refine (cin_new lim _ _ (Ext.refl _) (by omega)).mono ?_
  rintro e w2 ⟨gc, F2, rfl, h2, _⟩
  have kp : w2.heap[gp]? = some (.cells (pz lim) 92 (0, 0)) := blk_ext (blk_newk w1 (.cells (pz lim) 92 (0, 0)) hgp) (CntIn.out h2)
  have nF : ¬ F2 gp := fun e => by have := h2.lo gp e; rw [World.size_alloc] at this; omega
  have h0 := Lib.hid (holds_new (h2.base (hx1.alloc _)) nF kp hgw)
  have c0 : w2.cell? ⟨gp, 0, none⟩ = some (.pointer none) := (blk_cell kp 0).trans rfl
  have f0 := blk_frozen kp 0
  obtain ⟨W0, hW0⟩ : ∃ W0, w2.setCell ⟨gp, 0, none⟩ (.pointer (some ⟨gc, 0, none⟩)) = W0 := ⟨_, rfl⟩
  rw [hW0] at h0
  clear kp nF h2
  go_upto_block 0 with fail
  (try rw [hgp])
  (try rw [hW0])
  clear hW0 c0 f0
  go_cut [] (fun wd => ∃ val a S, a ≤ 300 ∧ HoldsAt w gp gc lim val a S wd)
  case first =>
    go_wp2_with fail
    go_loopw [42] (fun i wr => ∃ (k val a : Nat) (S : Nat → CallS), k ≤ m ∧ k ≤ 300 ∧ a ≤ k ∧ i = .int .i64 (k : Int) ∧ HoldsAt w gp gc lim val a S wr) (fun i _ => m - (intOf i).toNat)
    case atStart => exact ⟨0, 0, 0, _, Nat.zero_le _, by omega, Nat.le_refl _, rfl, h0.out⟩
    case round =>
      obtain ⟨k, val, a, S, hk, hk3, hak, rfl, hI⟩ := hrel
      have HI := Lib.hid hI
      by_cases hlt : k < m
      · obtain ⟨r, hr⟩ : ∃ r, R[k]? = some r := ⟨_, List.getElem?_eq_getElem (by rw [Hl.out]; exact hlt)⟩
        obtain ⟨who, op, rfl, hwho, hop⟩ := pick_row Hk.out hr
        obtain ⟨b, off, hA, _, c0, c1⟩ := pick_cells (Hr.out.ext hI.out) Hk.out hr
        subst hA
        clear hr hI
        by_cases h300 : k < 300
        · obtain ⟨u, hu⟩ : ∃ u : Nat, IntKind.u64.wrap who = (u : Int) := ⟨(IntKind.u64.wrap who).toNat, by rw [IntKind.wrap_u64]; omega⟩
          obtain ⟨d, hd, hd5⟩ : ∃ d : Nat, (u : Int) % 5 = (d : Int) ∧ d < 5 := ⟨u % 5, by omega, by omega⟩
          by_cases hop0 : op = 0
          · subst hop0
            by_cases hs : S d = .idle
            · have SP := Lib.hid (fun (u : World) (x : Ext wr u) => hstep_idle w u gp gc lim val a d S (HI.out.ext x) (by omega) hs)
              clear hs
              go_wp2_with fail
              refine (SP.out _ ((Ext.refl wr).alloc _)).mono ?_
              rintro e w5 ⟨rfl, h9⟩
              have H9 := Lib.hid h9
              clear h9 c0 c1
              go_wp2_with fail
              go_roundw
              case rel => exact ⟨k + 1, val, a, S, hlt, h300, by omega, by go_num, H9.out⟩
              case measure => simp [intOf]; omega
            · have SP := Lib.hid (fun (u : World) (x : Ext wr u) => hstep_busy w u gp gc lim val a d S (HI.out.ext x) (by omega) hs (by omega))
              clear hs
              go_wp2_with fail
              refine (SP.out _ ((Ext.refl wr).alloc _)).mono ?_
              rintro e w5 ⟨rfl, h9⟩
              have H9 := Lib.hid h9
              clear h9 c0 c1
              go_wp2_with fail
              go_roundw
              case rel => exact ⟨k + 1, _, a + 1, _, hlt, h300, by omega, by go_num, H9.out⟩
              case measure => simp [intOf]; omega
          · obtain ⟨q, hq, hq1, hq3⟩ : ∃ q : Nat, (1 : Int) + (op : Int) % 3 = (q : Int) ∧ 1 ≤ q ∧ q ≤ 3 := ⟨1 + op % 3, by omega, by omega, by omega⟩
            have hop1 : ((op : Int) == 0) = false := by rw [beq_eq_false_iff_ne]; omega
            by_cases hs : S d = .idle
            · have ST := Lib.hid (fun (u : World) (x : Ext wr u) => hold_start w u gp gc lim val a d q S (HI.out.ext x) (by omega) hs hq1 hq3)
              clear hs hop0
              go_wp2_with fail
              refine (ST.out _ ((Ext.refl wr).alloc _)).mono ?_
              rintro e w5 ⟨rfl, ⟨ups, downs, O, Sc, Sw, P⟩, h9⟩
              have H9 := Lib.hid h9
              have d64 : d < 64 := by omega
              obtain ⟨_, _, _, _, pa, pf⟩ := P.cells
              have c4 := (pa d d64).1
              have c68 := (pa d d64).2.1
              have c132 := (pa d d64).2.2
              have f4 := pf (4 + d)
              have f68 := pf (68 + d)
              have f132 := pf (132 + d)
              have hd0 : (0 : Int) ≤ (d : Int) := by omega
              have hdb : (d : Int) < 64 := by omega
              clear h9 c0 c1 pa pf
              go_upto_region 19 with fail
              go_region
              all_goals
                go_wp2_with fail
                go_roundw
                case rel =>
                  have gb := ((((GB.refl w5 (· = gp)).set gp (4 + d) (.int .u8 (q : Int)) (.inl rfl)).set gp (68 + d) (.int .i64 0) (.inl rfl)).set gp (132 + d) (.int .i64 0) (.inl rfl))
                  exact ⟨k + 1, val, a, _, hlt, h300, by omega, by go_num, (H9.out _ (fun _ _ _ _ _ P => ((P.setOp d64 q).setSc d64 0).setSw d64 0) gb).ext (Ext.refl _).drew⟩
                case measure => simp [intOf]; omega
            · have ST := Lib.hid (fun (u : World) (x : Ext wr u) => hold_busy w u gp gc lim val a d q S (HI.out.ext x) (by omega) hs hq1 hq3)
              clear hs hop0
              go_wp2_with fail
              refine (ST.out _ ((Ext.refl wr).alloc _)).mono ?_
              rintro e w5 ⟨rfl, h9⟩
              have H9 := Lib.hid h9
              clear h9 c0 c1
              go_wp2_with fail
              go_roundw
              case rel => exact ⟨k + 1, val, a, S, hlt, h300, by omega, by go_num, H9.out⟩
              case measure => simp [intOf]; omega
        · go_wp2_with fail
          go_meet
          exact ⟨val, a, S, by omega, HI.out.ext ((Ext.refl wr).alloc _)⟩
      · clear hI
        go_wp2_with fail
        go_meet
        exact ⟨val, a, S, by omega, HI.out⟩
  case rest =>
    obtain ⟨val, a, S, ha, hI⟩ := hcut
    have HI := Lib.hid hI
    clear hI
    go_wp2_with fail
    go_loopw [93] (fun i wr => ∃ (j val a : Nat) (S : Nat → CallS), j ≤ 5 ∧ a ≤ 300 + 3 * j ∧ i = .int .i64 (j : Int) ∧ HoldsAt w gp gc lim val a S wr) (fun i _ => 5 - (intOf i).toNat)
    case atStart => exact ⟨0, val, a, S, by omega, by omega, rfl, HI.out⟩
    case round =>
      obtain ⟨j, val, a, S, hj, haj, rfl, hI⟩ := hrel
      have HI := Lib.hid hI
      clear hI
      by_cases hlt : j < 5
      · have hj0 : (j : Int) < 5 := by omega
        go_wp2_with fail
        go_loopw [14] (fun i wr => ∃ (n val' a' : Nat) (S' : Nat → CallS), n + rankS val' (S' j) ≤ 3 ∧ a' ≤ 300 + 3 * j + n ∧ i = .int .i64 (n : Int) ∧ HoldsAt w gp gc lim val' a' S' wr) (fun i _ => 3 - (intOf i).toNat)
        case atStart => exact ⟨0, val, a, S, by have := rank_le val (S j); omega, by omega, rfl, HI.out⟩
        case round =>
          obtain ⟨n, val', a', S', hn, han, rfl, hI'⟩ := hrel
          have HI' := Lib.hid hI'
          clear hI'
          by_cases hs : S' j = .idle
          · have PF := Lib.hid (hold_pend w wr gp gc lim val' a' j S' HI'.out (by omega) false (.inr ⟨rfl, hs⟩))
            have hn3 : n ≤ 3 := by omega
            clear hs hn
            go_wp2_with fail
            refine PF.out.mono ?_
            rintro e w5 ⟨rfl, rfl⟩
            go_wp2_with fail
            go_roundw
            case rel => exact ⟨j + 1, val', a', S', hlt, by omega, by go_num, HI'.out⟩
            case measure => simp [intOf]; omega
          · have PF := Lib.hid (hold_pend w wr gp gc lim val' a' j S' HI'.out (by omega) true (.inl ⟨rfl, hs⟩))
            have RK := rank_step (val := val') hs
            have SP := Lib.hid (hstep_busy w wr gp gc lim val' a' j S' HI'.out (by omega) hs (by omega))
            have hn3 : n < 3 := by omega
            have RK2 : Hid (n + 1 + rankS (stVal val' (S' j)) (updS S' j (stNext val' (S' j)) j) ≤ 3) := Lib.hid (by rw [updS_self]; omega)
            clear hs hn RK
            go_wp2_with fail
            refine PF.out.mono ?_
            rintro e w5 ⟨rfl, rfl⟩
            go_wp2_with fail
            refine SP.out.mono ?_
            rintro e w5 ⟨rfl, h9⟩
            have H9 := Lib.hid h9
            clear h9
            go_wp2_with fail
            go_roundw
            case rel => exact ⟨n + 1, _, a' + 1, _, RK2.out, by omega, by go_num, H9.out⟩
            case measure => simp [intOf]; omega
      · have h5 : j = 5 := by omega
        subst h5
        obtain ⟨F, ups, downs, O, Sc, Sw, g1, g2, g3, g4, g5, g6, _⟩ := HI.out
        obtain ⟨_, _, p2, p3, _, _⟩ := g2.cells
        have CV := Lib.hid (fun (u : World) (x : Ext wr u) => hold_value w u gp gc lim val a S (HI.out.ext x))
        have hub : ups ≤ 1000 := by omega
        have hdb : downs ≤ 1000 := by omega
        have hbt : ((val : Int) == (ups : Int) - (downs : Int)) = true := by rw [beq_iff_eq]; omega
        clear g1 g2 g5 g6
        go_upto_region 32 with fail
        go_quiet ((go_at_call 34; exact quiet_eq (CV.out _ ((Ext.refl wr).drewN _))))
        go_wp2_with fail
        go_ret
        exact retTrue ((HI.out.out).drewN _)
end Go.Proofs.Ytfjgpeffhbfihaa
