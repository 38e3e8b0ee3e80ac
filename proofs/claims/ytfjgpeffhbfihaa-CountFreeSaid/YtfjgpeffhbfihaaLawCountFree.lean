/- CountFree answers true. -/
import Derived.Test.YtfjgpeffhbfihaaCntK
import Derived.Test.YtfjgpeffhbfihaaFrame
import Derived.Deep.LoopGhost
import Derived.Deep.CutBlock
namespace Go.Proofs.Ytfjgpeffhbfihaa
open Go.RowKit

theorem rformB_ok (N : Int) (w : World) (h : 0 ≤ N) (h' : N ≤ 4611686018427387903) : Calls Try.prog 37 #[.int .i64 N] w fun e w' => e = .returned (.bool true) ∧ w = w' := by
  go_enter Try.func37, Try.ntmps37
  go_wp2
  go_ret
  exact ⟨rfl, rfl⟩
set_option maxHeartbeats 4000000 in
set_option maxRecDepth 100000 in
theorem countFree_walk (w : World) (n0 : Nat) (hn0 : n0 < 256) (n1 : Nat) (hn1 : n1 < 256) (A : Option Addr) (m c : Nat) (xs : List Nat) (hl : xs.length = m) (hb : ∀ x ∈ xs, x < 256) (hr : Rd w A (vals .u8 xs)) (_hnc : m ≤ c) (_hz : m ≤ 140737488351232) :
    Calls Try.prog 8 #[.int .u8 (n0 : Int), .int .u8 (n1 : Int), .slice A m c] w (RetTrue w) := by
  have Hl := Lib.hid hl; have Hb := Lib.hid hb; have Hr := Lib.hid hr
  clear hl hb hr
  obtain ⟨W, hW⟩ : ∃ W, 1 + n1 % 6 = W := ⟨_, rfl⟩
  have hW6 : W ≤ 6 := by omega
  have hW1 : 1 ≤ W := by omega
  have hWi : (1 : Int) + (n1 : Int) % 6 = (W : Int) := by omega
  obtain ⟨lim, hlim⟩ : ∃ lim, n0 % 4 = lim := ⟨_, rfl⟩
  have hl4 : (lim : Int) ≤ 3 := by omega
  have hli : (n0 : Int) % 4 = (lim : Int) := by omega
  clear hW hlim
  go_enter Try.func8, Try.ntmps8
  go_wp2_with fail
  refine (cntAwake w).mono ?_
  rintro e w1 ⟨rfl, hx1⟩
  go_wp2_with fail
  refine (cin_new lim w w1 hx1 (by omega)).mono ?_
  rintro e w2 ⟨gc, F2, rfl, h2, _⟩
  have H2 := Lib.hid h2
  clear h2
  go_upto_block 0 with fail
  go_cut [10] (fun _ wd => ∃ val S F a, CntIn w F gc lim val a S wd)
  case first =>
    go_wp2_with fail
    go_loopw [10, 37] (fun q i wr => ∃ (k qn a val : Nat) (S : Nat → CallS) (F : Nat → Prop), k ≤ m ∧ k ≤ 400 ∧ i = .int .i64 (k : Int) ∧ q = .int .i64 (qn : Int) ∧ qn ≤ credSum val S W ∧ a ≤ k ∧ CntIn w F gc lim val a S wr) (fun _ i _ => m - (intOf i).toNat)
    case atStart => exact ⟨0, 0, 0, 0, _, F2, Nat.zero_le _, by omega, rfl, rfl, Nat.zero_le _, Nat.le_refl _, H2.out⟩
    case round =>
      obtain ⟨k, qn, a, val, S, F, hk, hk4, rfl, rfl, hq, ha, hI⟩ := hrel
      by_cases hlt : k < m
      · obtain ⟨x, hx⟩ := get_of_lt (xs := xs) (j := k) (by rw [Hl.out]; exact hlt)
        have hx256 := Hb.out x (List.mem_of_getElem? hx)
        obtain ⟨b, off, hA, _, hc⟩ := (Hr.out.ext (CntIn.out hI)).at_ hx
        subst hA
        have HI := Lib.hid hI; have HQ := Lib.hid hq
        clear hI hx hq
        by_cases h400 : k < 400
        · obtain ⟨d, hd, hdW⟩ : ∃ d : Nat, (x : Int) % (W : Int) = (d : Int) ∧ d < W := ⟨x % W, by omega, Nat.mod_lt _ (by omega)⟩
          obtain ⟨o, ho, ho1, ho3⟩ : ∃ o : Nat, (1 : Int) + (x : Int) / 64 % 3 = (o : Int) ∧ 1 ≤ o ∧ o ≤ 3 := ⟨1 + x / 64 % 3, by omega, by omega, by omega⟩
          have hq12 : qn ≤ 12 := by have := HQ.out; have := credSum_le val S W; omega
          have PI := Lib.hid (fun (b : Bool) hb => cin_pend w wr F gc lim val a d S HI.out (by omega) b hb)
          by_cases hs : S d = .idle
          · have PF := Lib.hid (PI.out false (.inr ⟨rfl, hs⟩))
            have ST := Lib.hid (cin_start w wr F gc lim val a d o S HI.out (by omega) hs ho1 ho3)
            have HQ2 := Lib.hid (Nat.le_trans HQ.out (cred_start (val := val) (lim := lim) (op := o) hs hdW))
            clear hs
            go_wp2_with fail
            refine PF.out.mono ?_
            rintro e w3 ⟨rfl, rfl⟩
            go_wp2_with fail
            refine ST.out.mono ?_
            rintro e w4 ⟨rfl, h4⟩
            obtain ⟨F4, h4⟩ := h4.any
            have H4 := Lib.hid h4
            obtain ⟨SS, hSS⟩ : ∃ SS, updS S d (startS lim o) = SS := ⟨_, rfl⟩
            have hss : SS d ≠ .idle := by rw [← hSS, updS_self]; exact start_some lim o
            rw [hSS] at h4 HQ2
            have SP := Lib.hid (cin_step w w4 F4 gc lim val a d SS h4 (by omega) hss (by omega))
            clear h4 hSS H4
            have hcq := fun (hd : stDone val (SS d) = false) => cred_quiet (W := W) hss hd hdW
            have HCQ := Lib.hid hcq
            obtain ⟨er, Her⟩ : ∃ er, Hid (stErr val (SS d) = er) := ⟨_, rfl⟩
            obtain ⟨nu, Hnu⟩ : ∃ nu, Hid (stNum val (SS d) = nu) := ⟨_, rfl⟩
            obtain ⟨dn, Hdn⟩ : ∃ dn, Hid (stDone val (SS d) = dn) := ⟨_, rfl⟩
            rw [Her.out, Hnu.out, Hdn.out] at SP
            clear hcq hss
            go_wp2_with fail
            refine SP.out.mono ?_
            rintro e w5 ⟨rfl, h5⟩
            obtain ⟨F5, h5⟩ := h5.any
            have H5 := Lib.hid h5
            clear h5
            cases dn with
            | true =>
              go_wp2_with fail
              go_roundw
              case rel => exact ⟨k + 1, 0, a + 1, _, _, F5, hlt, h400, by go_num, rfl, Nat.zero_le _, by omega, H5.out.ext ((Ext.refl w5).alloc _)⟩
              case measure => simp [intOf]; omega
            | false =>
              have hq2 := Lib.hid (Nat.le_trans (Nat.succ_le_succ HQ2.out) (HCQ.out Hdn.out))
              have hq3 : ¬ 2 * (W : Int) < (qn : Int) + 1 := by have h1 := hq2.out; have h2 := credSum_le (stVal val (SS d)) (updS SS d (stNext val (SS d))) W; omega
              go_wp2_with fail
              go_roundw
              case rel => exact ⟨k + 1, qn + 1, a + 1, _, _, F5, hlt, h400, by go_num, by go_num, hq2.out, by omega, H5.out.ext ((Ext.refl w5).alloc _)⟩
              case measure => simp [intOf]; omega
          · have PF := Lib.hid (PI.out true (.inl ⟨rfl, hs⟩))
            have HQ2 := HQ
            obtain ⟨SS, hSS⟩ : ∃ SS, S = SS := ⟨_, rfl⟩
            subst hSS
            have hss := hs
            have SP := Lib.hid (cin_step w wr F gc lim val a d S HI.out (by omega) hss (by omega))
            clear hs
            go_wp2_with fail
            refine PF.out.mono ?_
            rintro e w3 ⟨rfl, rfl⟩
            have hcq := fun (hd : stDone val (S d) = false) => cred_quiet (W := W) hss hd hdW
            have HCQ := Lib.hid hcq
            obtain ⟨er, Her⟩ : ∃ er, Hid (stErr val (S d) = er) := ⟨_, rfl⟩
            obtain ⟨nu, Hnu⟩ : ∃ nu, Hid (stNum val (S d) = nu) := ⟨_, rfl⟩
            obtain ⟨dn, Hdn⟩ : ∃ dn, Hid (stDone val (S d) = dn) := ⟨_, rfl⟩
            rw [Her.out, Hnu.out, Hdn.out] at SP
            clear hcq hss
            go_wp2_with fail
            refine SP.out.mono ?_
            rintro e w5 ⟨rfl, h5⟩
            obtain ⟨F5, h5⟩ := h5.any
            have H5 := Lib.hid h5
            clear h5
            cases dn with
            | true =>
              go_wp2_with fail
              go_roundw
              case rel => exact ⟨k + 1, 0, a + 1, _, _, F5, hlt, h400, by go_num, rfl, Nat.zero_le _, by omega, H5.out.ext ((Ext.refl w5).alloc _)⟩
              case measure => simp [intOf]; omega
            | false =>
              have hq2 := Lib.hid (Nat.le_trans (Nat.succ_le_succ HQ2.out) (HCQ.out Hdn.out))
              have hq3 : ¬ 2 * (W : Int) < (qn : Int) + 1 := by have h1 := hq2.out; have h2 := credSum_le (stVal val (S d)) (updS S d (stNext val (S d))) W; omega
              go_wp2_with fail
              go_roundw
              case rel => exact ⟨k + 1, qn + 1, a + 1, _, _, F5, hlt, h400, by go_num, by go_num, hq2.out, by omega, H5.out.ext ((Ext.refl w5).alloc _)⟩
              case measure => simp [intOf]; omega
        · go_wp2_with fail
          go_meet
          exact ⟨val, S, F, a, HI.out⟩
      · have HI := Lib.hid hI
        clear hI
        go_wp2_with fail
        go_meet
        exact ⟨val, S, F, a, HI.out⟩
  case rest =>
    obtain ⟨val, S, F, a, hI⟩ := hcut
    have CV := Lib.hid (cin_value w wc F gc lim val a S hI)
    have hv := hI.le
    have HX := Lib.hid (CntIn.out hI)
    clear hI
    go_wp2_with fail
    refine CV.out.mono ?_
    rintro e w6 ⟨rfl, rfl⟩
    go_wp2_with fail
    refine CV.out.mono ?_
    rintro e w6 ⟨rfl, rfl⟩
    go_wp2_with fail
    refine (rformB_ok val wc (by omega) (by omega)).mono ?_
    rintro e w6 ⟨rfl, rfl⟩
    go_wp2_with fail
    go_ret
    exact retTrue HX.out
end Go.Proofs.Ytfjgpeffhbfihaa
