/- The document's Frames: all bytes that came, gone through. -/
import Derived.Test.YtkebkhgjoiiapaaFrF
import Derived.Test.YtkebkhgjoiiapaaWord
import Derived.OwnWalk
namespace Go.Proofs.Ytkebkhgjoiiapaa
open Go.RowKit

/-- what Frames answers -/
def FramesR (xs : List Nat) (w : World) (e : Ending) (w' : World) : Prop :=
  ∃ B m d, e = .returned (.tuple #[.slice B m d, .int .i64 ((xs.length - (parse xs).2.1.length : Nat) : Int), .bool (parse xs).2.2]) ∧ PL w' w.heap.size B m d (parse xs).1 ∧ Ext w w'
theorem numB_take4 {xs : List Nat} (hb : ∀ x ∈ xs, x < 256) : numB (xs.take 4) < 4294967296 := by
  have h := numB_lt (xs.take 4) (fun x hx => hb x (List.mem_of_mem_take hx))
  refine Nat.lt_of_lt_of_le h (Nat.le_trans (Nat.pow_le_pow_right (by omega) (List.length_take_le 4 xs)) (by decide))
set_option maxRecDepth 100000 in
set_option maxHeartbeats 2000000 in
theorem frames_any (w : World) (A : Option Addr) (n c : Nat) (xs : List Nat) (hl : xs.length = n) (hnc : n ≤ c) (hb : ∀ x ∈ xs, x < 256) (hr : Rd w A (vals .u8 xs)) (hN : n ≤ 5000000000000) :
    Calls Try.prog 53 #[.slice A n c] w (FramesR xs w) := by
  have Hl := Lib.hid hl; have Hb := Lib.hid hb; have Hr := Lib.hid hr; clear hl hb hr
  go_enter Try.func53, Try.ntmps53
  go_wp2_with fail
  go_loopw [5, 6] (fun v5 v6 wr => ∃ (k m d : Nat) (B : Option Addr) (pss : List (List Nat)), v5 = .slice B m d ∧ v6 = .int .i64 (k : Int) ∧ k ≤ n ∧ m ≤ k ∧ PL wr w.heap.size B m d pss ∧ Ext w wr ∧ pss ++ (parse (xs.drop k)).1 = (parse xs).1 ∧ (parse (xs.drop k)).2 = (parse xs).2) (fun _ v6 _ => n - (intOf v6).toNat)
  case atStart => exact ⟨0, 0, 0, none, [], rfl, rfl, Nat.zero_le _, Nat.le_refl _, PL.nil _ _, Ext.refl w, rfl, rfl⟩
  case round =>
    obtain ⟨k, m, d, B, pss, rfl, rfl, hk, hmk, hP, hx, hp1, hp2⟩ := hrel
    have HP := Lib.hid hP; have HX := Lib.hid hx; have HP1 := Lib.hid hp1; have HP2 := Lib.hid hp2
    have hdl0 : (xs.drop k).length = n - k := by rw [List.length_drop, Hl.out]
    obtain ⟨nk, hnk⟩ : ∃ nk, n - k = nk := ⟨_, rfl⟩
    have hsub : IntKind.i64.wrap ((n : Int) - (k : Int)) = (nk : Int) := by rw [IntKind.wrap_i64]; omega
    have hdl : (xs.drop k).length = nk := hdl0.trans hnk
    have HDL := Lib.hid hdl; have HNK := Lib.hid hnk
    clear hP hx hp1 hp2 hdl0
    by_cases h4 : nk < 4
    · have hh : headF (xs.drop k) = 0 := headF_few (by omega)
      have h4i : ¬ (4 : Int) ≤ (nk : Int) := by omega
      have h4d : decide ((4 : Int) ≤ (nk : Int)) = false := decide_eq_false h4i
      have FIN : Hid (FramesR xs w (.returned (.tuple #[.slice B m d, .int .i64 (k : Int), .bool false])) wr) := Lib.hid (by
        have e1 := parse_wait hh
        have h1 := HP1.out; have h2 := HP2.out
        rw [e1] at h1 h2
        refine ⟨B, m, d, ?_, by rw [← h1, List.append_nil]; exact HP.out, HX.out⟩
        rw [← h2, Hl.out]
        dsimp only
        rw [hdl, show n - nk = k by have := HNK.out; omega])
      clear hh hdl h4 hnk
      go_wp2_with fail
      go_ret3
      exact FIN.out
    · have h4d : decide ((4 : Int) ≤ (nk : Int)) = true := decide_eq_true (by omega)
      obtain ⟨N, hN'⟩ : ∃ N, numB ((xs.drop k).take 4) = N := ⟨_, rfl⟩
      have hbd : ∀ x ∈ xs.drop k, x < 256 := fun x hx => Hb.out x (List.mem_of_mem_drop hx)
      have hN4 : N < 4294967296 := by rw [← hN']; exact numB_take4 hbd
      obtain ⟨k4, hk4⟩ : ∃ k4, k + 4 = k4 := ⟨_, rfl⟩
      have HK4 := Lib.hid hk4
      have hw4 : IntKind.i64.wrap ((k : Int) + 4) = (k4 : Int) := by rw [IntKind.wrap_i64]; omega
      obtain ⟨A1, hs1, hr1⟩ := slice_mid_any (P := Try.prog) Try.underlying22 size_u8 (A := A) (n := n) (c := c) (m := 4) (d := c - k) k k4 rfl rfl (by omega) hnc (by omega) (by omega)
      have hv1 := hr1 wr (vals .u8 xs) (by rw [vals_len]; exact Hl.out) (Hr.out.ext HX.out)
      rw [← vals_drop, ← vals_take] at hv1
      have NUM0 := docNumber_any wr A1 4 (c - k) ((xs.drop k).take 4) (by rw [List.length_take, hdl]; omega) (by omega) (fun x hx => hbd x (List.mem_of_mem_take hx)) hv1
      rw [hN'] at NUM0
      have NUM := Lib.hid NUM0
      have HNN := Lib.hid hN'; have HBD := Lib.hid hbd
      have hwN : IntKind.i64.wrap (N : Int) = (N : Int) := by rw [IntKind.wrap_i64]; omega
      have HH := Lib.hid (show headF (xs.drop k) = if N = 0 ∨ 4096 < N then 1 else if nk - 4 < N then 0 else 2 by
        unfold headF
        rw [hdl, if_neg h4, hN'])
      have H4 := Lib.hid h4
      clear hN' hbd hv1 hr1 NUM0 hdl h4
      by_cases hbad : N = 0 ∨ 4096 < N
      · have FIN : Hid (FramesR xs w (.returned (.tuple #[.slice B m d, .int .i64 (k : Int), .bool true])) wr) := Lib.hid (by
          have hh := HH.out
          rw [if_pos hbad] at hh
          have e1 := parse_bad hh
          have h1 := HP1.out; have h2 := HP2.out
          rw [e1] at h1 h2
          refine ⟨B, m, d, ?_, by rw [← h1, List.append_nil]; exact HP.out, HX.out⟩
          rw [← h2, Hl.out]
          dsimp only
          rw [HDL.out, show n - nk = k by have := HNK.out; omega])
        rcases hbad with h0 | h0
        · have b1 : decide ((N : Int) < 1) = true := decide_eq_true (by omega)
          clear h0 hk4 hnk
          go_wp2_with fail
          refine NUM.out.mono ?_
          rintro e w3 ⟨rfl, rfl⟩
          go_wp2_with fail
          go_ret3
          exact FIN.out
        · have b1 : decide ((N : Int) < 1) = false := decide_eq_false (by omega)
          have b2 : decide ((4096 : Int) < (N : Int)) = true := decide_eq_true (by omega)
          clear h0 hk4 hnk
          go_wp2_with fail
          refine NUM.out.mono ?_
          rintro e w3 ⟨rfl, rfl⟩
          go_wp2_with fail
          go_ret3
          exact FIN.out
      · have hN1 : 1 ≤ N := by omega
        have hN2 : N ≤ 4096 := by omega
        have b1 : decide ((N : Int) < 1) = false := decide_eq_false (by omega)
        have b2 : decide ((4096 : Int) < (N : Int)) = false := decide_eq_false (by omega)
        obtain ⟨n5, hn5⟩ : ∃ n5, nk - 4 = n5 := ⟨_, rfl⟩
        have hsub2 : IntKind.i64.wrap ((nk : Int) - 4) = (n5 : Int) := by have := H4.out; rw [IntKind.wrap_i64]; omega
        have HN5 := Lib.hid hn5
        by_cases hfew : nk - 4 < N
        · have b3 : decide ((n5 : Int) < (N : Int)) = true := decide_eq_true (by omega)
          have b3' : decide (n5 < N) = true := decide_eq_true (by omega)
          have FIN : Hid (FramesR xs w (.returned (.tuple #[.slice B m d, .int .i64 (k : Int), .bool false])) wr) := Lib.hid (by
            have hh := HH.out
            rw [if_neg hbad, if_pos hfew] at hh
            have e1 := parse_wait hh
            have h1 := HP1.out; have h2 := HP2.out
            rw [e1] at h1 h2
            refine ⟨B, m, d, ?_, by rw [← h1, List.append_nil]; exact HP.out, HX.out⟩
            rw [← h2, Hl.out]
            dsimp only
            rw [HDL.out, show n - nk = k by have := HNK.out; omega])
          clear hfew hbad hn5 hk4 hnk
          go_wp2_with fail
          refine NUM.out.mono ?_
          rintro e w3 ⟨rfl, rfl⟩
          go_wp2_with fail
          go_ret3
          exact FIN.out
        · have b3 : decide ((n5 : Int) < (N : Int)) = false := decide_eq_false (by omega)
          have b3' : decide (n5 < N) = false := decide_eq_false (by omega)
          have h4n := H4.out
          have hh : headF (xs.drop k) = 2 := by have h9 := HH.out; rwa [if_neg hbad, if_neg hfew] at h9
          obtain ⟨kN, hkN⟩ : ∃ kN, k4 + N = kN := ⟨_, rfl⟩
          obtain ⟨fN, hfN⟩ : ∃ fN, 4 + N = fN := ⟨_, rfl⟩
          have hw5 : IntKind.i64.wrap ((k4 : Int) + (N : Int)) = (kN : Int) := by rw [IntKind.wrap_i64]; omega
          have hw6 : IntKind.i64.wrap ((4 : Int) + (N : Int)) = (fN : Int) := by rw [IntKind.wrap_i64]; omega
          have hw7 : IntKind.i64.wrap ((k : Int) + (fN : Int)) = (kN : Int) := by rw [IntKind.wrap_i64]; omega
          have HF3 := Lib.hid (show N ≤ n5 by omega)
          have HKN := Lib.hid hkN; have HFN := Lib.hid hfN
          obtain ⟨A2, hs2, hr2⟩ := slice_mid_any (P := Try.prog) Try.underlying22 size_u8 (A := A) (n := n) (c := c) (m := N) (d := c - k4) k4 kN rfl rfl (by omega) hnc (by omega) (by omega)
          have hpay : (xs.drop k4).take N = payF (xs.drop k) := by unfold payF; rw [HNN.out, List.drop_drop, hk4]
          have hrest : restF (xs.drop k) = xs.drop kN := by unfold restF; rw [HNN.out, List.drop_drop, List.drop_drop]; congr 1; omega
          have hpl : (payF (xs.drop k)).length = N := by rw [(restF_lt hh).2.1]; exact HNN.out
          have hv2 := fun u (x : Ext wr u) => hr2 u (vals .u8 xs) (by rw [vals_len]; exact Hl.out) ((Hr.out.ext HX.out).ext x)
          rw [← vals_drop, ← vals_take, hpay] at hv2
          have TW := Lib.hid (twin_any A2 N (c - k4) (payF (xs.drop k)) wr hpl (by omega) (hv2 wr (Ext.refl wr)))
          have HH2 := Lib.hid hh; have HPL := Lib.hid hpl; have HRE := Lib.hid hrest
          clear hfew hbad hh hpay hrest hpl hv2 hr2 hkN hfN hn5 hk4 hnk h4n
          go_wp2_with fail
          refine NUM.out.mono ?_
          rintro e w3 ⟨rfl, rfl⟩
          go_wp2_with fail
          refine TW.out.mono ?_
          rintro e w4 ⟨A4, c4, rfl, hown4, hx4⟩
          rw [HPL.out] at hown4 ⊢
          have hg4 : wr.grownBy w4 none := ⟨hx4.os, hx4.tape, hx4.output, hx4.size, fun k hk _ => hx4.block k hk⟩
          obtain ⟨vs, hPv⟩ := HP.out.open_ hg4 (fun k hk => by cases hk)
          have hov := hPv.own
          have hsz4 : wr.heap.size ≤ w4.heap.size := hx4.size
          have hszw : w.heap.size ≤ wr.heap.size := HX.out.size
          have HO4 := Lib.hid hown4; have HPV := Lib.hid hPv; have HX4 := Lib.hid hx4
          clear hown4 hPv hx4 hg4
          go_wp2_with (first | (at_builtin; refine app_bb _ rfl (.tmp 35) (.tmp 45) rfl w.heap.size rfl (hov.alloc _) rfl (m := 1) (news := [.slice A4 N c4]) rfl (rd_new _ _ _) (fun u hu => by rw [List.mem_singleton.1 hu]; rfl) (by omega) (by simp; omega) ?_; intro B5 cb5 w5 hown5 hgrow5 _) | fail)
          go_roundw
          case rel =>
            have e1 := parse_frame HH2.out
            have h1 := HP1.out; have h2 := HP2.out
            rw [e1, HRE.out] at h1 h2
            have hsn : PL w5 w.heap.size B5 (m + 1) cb5 (pss ++ [payF (xs.drop k)]) := HPV.out.snoc (by rw [HPL.out]; exact HO4.out) (by rw [HPL.out]; omega) hszw hsz4 (World.grownBy_alloc _ _ _) (by rw [HPL.out]; exact hown5) hgrow5
            exact ⟨kN, m + 1, cb5, B5, pss ++ [payF (xs.drop k)], rfl, rfl, by have := HKN.out; have := HK4.out; have := HNK.out; have := HN5.out; have := HF3.out; have := H4.out; omega, by have := HKN.out; have := HK4.out; omega, hsn, ((HX.out.trans HX4.out).alloc _).grown hgrow5 (own_ge hov), by rw [← h1]; simp, h2⟩
          case measure => simp [intOf]; have := HKN.out; have := HK4.out; have := HNK.out; have := HN5.out; have := HF3.out; have := H4.out; omega
end Go.Proofs.Ytkebkhgjoiiapaa
