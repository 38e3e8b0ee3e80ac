/- MachReals answers true. -/
import Derived.Test.YtfjgpeffhbfihaaRealC
import Derived.Test.YtfjgpeffhbfihaaFrame
import Derived.Deep.LoopGhost
namespace Go.Proofs.Ytfjgpeffhbfihaa
open Go.RowKit

set_option maxHeartbeats 2000000 in
set_option maxRecDepth 100000 in
theorem real_any (w0 w : World) (pr pd : Option Addr) (k : Nat) (kd : Nat) (who word : Int) (old new : Nat) (t : Int) (hkd : kd < 256) (h : BothSt w0 pr pd k w) (hk : k ≤ 1000) :
    Calls Try.prog 23 #[.pointer pr, .pointer pd, .agg #[.int .u8 (kd : Int), .int .i64 who, .int .i64 word, .int .u64 (old : Int), .int .u64 (new : Int), .int .i64 t]] w fun e w' => e = .returned (.bool true) ∧ BothSt w0 pr pd (k + 1) w' := by
  have x : Ext w (w.alloc (.cells #[.int .u8 (kd : Int), .int .i64 who, .int .i64 word, .int .u64 (old : Int), .int .u64 (new : Int), .int .i64 t] 30)) := (Ext.refl w).alloc _
  have KB := Lib.hid (blk_new w (.cells #[.int .u8 (kd : Int), .int .i64 who, .int .i64 word, .int .u64 (old : Int), .int .u64 (new : Int), .int .i64 t] 30 (0, 0)))
  have H := Lib.hid h; have X := Lib.hid x
  clear h x
  by_cases h0 : kd = 0
  · subst h0
    obtain ⟨a, q, hp⟩ := pair_load H.out X.out hk who word
    have HP := Lib.hid hp
    clear hp
    go_enter Try.func23, Try.ntmps23
    go_wp2_with fail
    refine Calls.mono HP.out ?_
    rintro e w1 ⟨rfl, g1, hd⟩
    have KB1 := g1.blk KB.out (Nat.lt_irrefl _)
    have b1 := blk_cell KB1 1; have b2 := blk_cell KB1 2
    have HD := Lib.hid hd
    clear hd KB1 g1
    go_wp2_with fail
    refine HD.out.mono ?_
    rintro e w2 ⟨rfl, hq⟩
    have HQ := Lib.hid hq
    clear hq
    go_wp2_with fail
    go_ret
    exact ⟨rfl, HQ.out⟩
  · by_cases h1 : kd = 1
    · subst h1
      obtain ⟨a, q, hp⟩ := pair_swap H.out X.out hk who word old new
      have HP := Lib.hid hp
      clear hp
      go_enter Try.func23, Try.ntmps23
      go_wp2_with fail
      refine Calls.mono HP.out ?_
      rintro e w1 ⟨rfl, g1, hd⟩
      have KB1 := g1.blk KB.out (Nat.lt_irrefl _)
      have b1 := blk_cell KB1 1; have b2 := blk_cell KB1 2; have b3 := blk_cell KB1 3; have b4 := blk_cell KB1 4
      have HD := Lib.hid hd
      clear hd KB1 g1
      go_wp2_with fail
      refine HD.out.mono ?_
      rintro e w2 ⟨rfl, hq⟩
      have HQ := Lib.hid hq
      clear hq
      go_wp2_with fail
      go_ret
      exact ⟨ret_bool (by simp), HQ.out⟩
    · by_cases h2 : kd = 2
      · subst h2
        obtain ⟨a, q, hp⟩ := pair_clock H.out X.out hk who
        have HP := Lib.hid hp
        clear hp
        go_enter Try.func23, Try.ntmps23
        go_wp2_with fail
        refine Calls.mono HP.out ?_
        rintro e w1 ⟨rfl, g1, hd⟩
        have KB1 := g1.blk KB.out (Nat.lt_irrefl _)
        have b1 := blk_cell KB1 1
        have HD := Lib.hid hd
        clear hd KB1 g1
        go_wp2_with fail
        refine HD.out.mono ?_
        rintro e w2 ⟨rfl, hq⟩
        have HQ := Lib.hid hq
        clear hq
        go_wp2_with fail
        go_ret
        exact ⟨rfl, HQ.out⟩
      · by_cases h3 : kd = 3
        · subst h3
          obtain ⟨a, q, hp⟩ := pair_tick H.out X.out t
          have HP := Lib.hid hp
          clear hp
          go_enter Try.func23, Try.ntmps23
          go_wp2_with fail
          refine Calls.mono HP.out ?_
          rintro e w1 ⟨rfl, g1, hd⟩
          have KB1 := g1.blk KB.out (Nat.lt_irrefl _)
          have b1 := blk_cell KB1 5
          have HD := Lib.hid hd
          clear hd KB1 g1
          go_wp2_with fail
          refine HD.out.mono ?_
          rintro e w2 ⟨rfl, hq⟩
          have HQ := Lib.hid hq
          clear hq
          go_wp2_with fail
          go_ret
          exact ⟨rfl, HQ.out⟩
        · have e0 : ((kd : Int) == 0) = false := by rw [beq_eq_false_iff_ne]; omega
          have e1 : ((kd : Int) == 1) = false := by rw [beq_eq_false_iff_ne]; omega
          have e2 : ((kd : Int) == 2) = false := by rw [beq_eq_false_iff_ne]; omega
          have e3 : ((kd : Int) == 3) = false := by rw [beq_eq_false_iff_ne]; omega
          clear h0 h1 h2 h3
          go_enter Try.func23, Try.ntmps23
          go_wp2_with fail
          go_ret
          exact ⟨rfl, (H.out.ext X.out).more (by omega)⟩
set_option maxHeartbeats 2000000 in
set_option maxRecDepth 100000 in
theorem machReals_walk (w : World) (n : Int) (_ : -9223372036854775808 ≤ n) (_ : n ≤ 9223372036854775807) (A : Option Addr) (m c : Nat) (R : List (List Int)) (hl : R.length = m) (hk : RecsOk opKs R) (hr : Rd w A (R.flatMap (recVals opKs))) (_hnc : m ≤ c) (_hz : m ≤ 17592186043904) :
    Calls Try.prog 5 #[.int .i64 n, .slice A m c] w (RetTrue w) := by
  have Hl := Lib.hid hl; have Hk := Lib.hid hk; have Hr := Lib.hid hr
  clear hl hk hr
  by_cases hn : 1 ≤ n ∧ n ≤ 4096
  · obtain ⟨N, rfl⟩ : ∃ N : Nat, n = (N : Int) := ⟨n.toNat, by omega⟩
    have hN1 : 1 ≤ N := by omega
    have hN2 : N ≤ 4096 := by omega
    clear hn
    go_enter Try.func5, Try.ntmps5
    go_wp2_with fail
    refine (machAwake w).mono ?_
    rintro e w1 ⟨rfl, hx1⟩
    go_wp2_with fail
    refine (plain_ok N w1 hN1 hN2).mono ?_
    rintro e w2 ⟨g, F1, rfl, m2, x2, f2, _⟩
    have M2 := Lib.hid m2
    clear m2
    go_wp2_with fail
    refine (rnew_ok N w2 hN1 hN2).mono ?_
    rintro e w3 ⟨d, F2, rfl, m3, x3, f3, _⟩
    have h0 := Lib.hid (show BothSt w (some ⟨g, 0, none⟩) (some ⟨d, 0, none⟩) 0 w3 from ⟨(hx1.trans x2).trans x3, .inr ⟨g, d, _, 0, [], F1, F2, rfl, rfl, M2.out.ext x3, m3, Nat.le_refl _, by omega, fun i h1 h2 => by have := M2.out.lt i h1; have := f3 i h2; omega, fun i hi => Nat.le_trans hx1.size (f2 i hi), fun i hi => Nat.le_trans (hx1.trans x2).size (f3 i hi)⟩⟩)
    clear m3
    go_wp2_with fail
    go_loopw [35] (fun i wr => ∃ k j : Nat, k ≤ m ∧ j ≤ k ∧ j ≤ 400 ∧ i = .int .i64 (k : Int) ∧ BothSt w (some ⟨g, 0, none⟩) (some ⟨d, 0, none⟩) j wr) (fun i _ => m - (intOf i).toNat)
    case atStart => exact ⟨0, 0, Nat.zero_le _, Nat.le_refl _, by omega, rfl, h0.out⟩
    case round =>
      obtain ⟨k, j, hk, hjk, hj, rfl, hI⟩ := hrel
      by_cases hlt : k < m
      · obtain ⟨r, hr⟩ : ∃ r, R[k]? = some r := ⟨_, List.getElem?_eq_getElem (by rw [Hl.out]; exact hlt)⟩
        obtain ⟨kd, who, word, old, new, t, rfl, r1, r2, r3, r4, r5, r6⟩ := op_row Hk.out hr
        obtain ⟨b, off, hA, _, c0, c1, c2, c3, c4, c5⟩ := op_cells (Hr.out.ext hI.1) Hk.out hr
        subst hA
        have HI := Lib.hid hI
        clear hI hr
        by_cases h400 : k < 400
        · go_wp2_with fail
          refine (real_any w _ (some ⟨g, 0, none⟩) (some ⟨d, 0, none⟩) j kd who word old new t r1 (HI.out.ext ((Ext.refl wr).alloc _)) (by omega)).mono ?_
          rintro e w4 ⟨rfl, hs⟩
          have HS := Lib.hid hs
          clear hs
          go_wp2_with fail
          go_roundw
          case rel => exact ⟨k + 1, j + 1, hlt, by omega, by omega, by go_num, HS.out⟩
          case measure => simp [intOf]; omega
        · go_wp2_with fail
          go_roundw
          case rel => exact ⟨k + 1, j, hlt, by omega, hj, by go_num, HI.out.ext ((Ext.refl wr).alloc _)⟩
          case measure => simp [intOf]; omega
      · have HX := Lib.hid hI.1
        clear hI
        go_wp2_with fail
        go_ret
        exact retTrue HX.out
  · have hn' : n < 1 ∨ 4096 < n := by omega
    have HN := Lib.hid hn'
    clear hn hn'
    go_enter Try.func5, Try.ntmps5
    go_wp2_with fail
    refine (machAwake w).mono ?_
    rintro e w1 ⟨rfl, hx1⟩
    go_wp2_with fail
    refine (plain_bad n w1 HN.out).mono ?_
    rintro e w2 ⟨rfl, rfl⟩
    go_wp2_with fail
    refine (rnew_bad n w1 HN.out).mono ?_
    rintro e w2 ⟨rfl, rfl⟩
    have h0 := Lib.hid (show BothSt w none none 0 w1 from ⟨hx1, .inl ⟨rfl, rfl⟩⟩)
    go_wp2_with fail
    go_loopw [35] (fun i wr => ∃ k j : Nat, k ≤ m ∧ j ≤ k ∧ j ≤ 400 ∧ i = .int .i64 (k : Int) ∧ BothSt w none none j wr) (fun i _ => m - (intOf i).toNat)
    case atStart => exact ⟨0, 0, Nat.zero_le _, Nat.le_refl _, by omega, rfl, h0.out⟩
    case round =>
      obtain ⟨k, j, hk, hjk, hj, rfl, hI⟩ := hrel
      by_cases hlt : k < m
      · obtain ⟨r, hr⟩ : ∃ r, R[k]? = some r := ⟨_, List.getElem?_eq_getElem (by rw [Hl.out]; exact hlt)⟩
        obtain ⟨kd, who, word, old, new, t, rfl, r1, r2, r3, r4, r5, r6⟩ := op_row Hk.out hr
        obtain ⟨b, off, hA, _, c0, c1, c2, c3, c4, c5⟩ := op_cells (Hr.out.ext hI.1) Hk.out hr
        subst hA
        have HI := Lib.hid hI
        clear hI hr
        by_cases h400 : k < 400
        · go_wp2_with fail
          refine (real_any w _ none none j kd who word old new t r1 (HI.out.ext ((Ext.refl wr).alloc _)) (by omega)).mono ?_
          rintro e w4 ⟨rfl, hs⟩
          have HS := Lib.hid hs
          clear hs
          go_wp2_with fail
          go_roundw
          case rel => exact ⟨k + 1, j + 1, hlt, by omega, by omega, by go_num, HS.out⟩
          case measure => simp [intOf]; omega
        · go_wp2_with fail
          go_roundw
          case rel => exact ⟨k + 1, j, hlt, by omega, hj, by go_num, HI.out.ext ((Ext.refl wr).alloc _)⟩
          case measure => simp [intOf]; omega
      · have HX := Lib.hid hI.1
        clear hI
        go_wp2_with fail
        go_ret
        exact retTrue HX.out
end Go.Proofs.Ytfjgpeffhbfihaa
