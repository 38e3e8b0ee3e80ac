/- MachTail answers true. -/
import Derived.Test.YtfjgpeffhbfihaaMchF
import Derived.Test.YtfjgpeffhbfihaaFrame
import Derived.Deep.LoopGhost
import Derived.Deep.DeepCutAuto
import Derived.Deep.CutBlock
import Derived.Deep.QuietTactic
namespace Go.Proofs.Ytfjgpeffhbfihaa
open Go.RowKit

set_option maxHeartbeats 4000000 in
set_option maxRecDepth 100000 in
theorem machTail_walk (w : World) (n0 : Nat) (hn0 : n0 < 256) (A : Option Addr) (n c : Nat) (R : List (List Int)) (hl : R.length = n) (hk : RecsOk opKs R) (hr : Rd w A (R.flatMap (recVals opKs))) (_hnc : n ≤ c) (_hz : n ≤ 17592186043904) (n2 : Nat) (hn2 : n2 < 256) :
    Calls Try.prog 3 #[.int .u8 (n0 : Int), .slice A n c, .int .u8 (n2 : Int)] w (RetTrue w) := by
  have Hl := Lib.hid hl; have Hk := Lib.hid hk; have Hr := Lib.hid hr
  clear hl hk hr
  go_enter Try.func3, Try.ntmps3
  go_wp2_with fail
  refine (machAwake w).mono ?_
  rintro e w1 ⟨rfl, hx1⟩
  go_wp2_with fail
  refine (mnew_ok (1 + n0 % 8) w1 (by omega) (by omega)).mono ?_
  intro e w2 hn
  obtain ⟨g, rfl, m2, _⟩ := MachIn.of_new hx1 hn
  have h0 := Lib.hid (show TailSt w g (1 + n0 % 8) 0 w2 from ⟨_, _, by simp, by simp, m2⟩)
  clear hn m2
  go_upto_block 0 with fail
  go_cut [] (fun wd => TailSt w g (1 + n0 % 8) 200 wd)
  case first =>
    go_wp2_with fail
    go_loopw [35] (fun i wr => ∃ k : Nat, k ≤ n ∧ k ≤ 200 ∧ i = .int .i64 (k : Int) ∧ TailSt w g (1 + n0 % 8) k wr) (fun i _ => n - (intOf i).toNat)
    case atStart => exact ⟨0, Nat.zero_le _, by omega, rfl, h0.out⟩
    case round =>
      obtain ⟨k, hk, hk2, rfl, hI⟩ := hrel
      by_cases hlt : k < n
      · obtain ⟨r, hr⟩ : ∃ r, R[k]? = some r := ⟨_, List.getElem?_eq_getElem (by rw [Hl.out]; exact hlt)⟩
        obtain ⟨kd, who, word, old, new, t, rfl, r1, r2, r3, r4, r5, r6⟩ := op_row Hk.out hr
        have hxr : Ext w wr := by obtain ⟨_, _, _, _, F, _, x, _⟩ := hI; exact x
        obtain ⟨b, off, hA, _, c0, c1, c2, c3, c4, c5⟩ := op_cells (Hr.out.ext hxr) Hk.out hr
        subst hA
        have HI := Lib.hid hI
        clear hI hr
        by_cases h200 : k < 200
        · rcases (by omega : kd % 3 = 0 ∨ kd % 3 = 1 ∨ kd % 3 = 2) with h3 | h3 | h3
          · have h3' : ((kd : Int) % 3) = 0 := by omega
            clear h3
            go_wp2_with fail
            refine (tail_load w _ g (1 + n0 % 8) k who word (HI.out.ext ((Ext.refl wr).alloc _)) (by omega)).mono ?_
            rintro e w3 ⟨v, q, rfl, hs⟩
            have HS := Lib.hid hs; clear hs
            go_wp2_with fail
            go_roundw
            case rel => exact ⟨k + 1, hlt, h200, by go_num, HS.out⟩
            case measure => simp [intOf]; omega
          · have h3' : ((kd : Int) % 3) = 1 := by omega
            clear h3
            go_wp2_with fail
            refine (tail_swap w _ g (1 + n0 % 8) k who word old new (HI.out.ext ((Ext.refl wr).alloc _)) (by omega)).mono ?_
            rintro e w3 ⟨v, q, rfl, hs⟩
            have HS := Lib.hid hs; clear hs
            go_wp2_with fail
            go_roundw
            case rel => exact ⟨k + 1, hlt, h200, by go_num, HS.out⟩
            case measure => simp [intOf]; omega
          · have h3' : ((kd : Int) % 3) = 2 := by omega
            clear h3
            go_wp2_with fail
            refine (tail_clock w _ g (1 + n0 % 8) k who (HI.out.ext ((Ext.refl wr).alloc _)) (by omega)).mono ?_
            rintro e w3 ⟨v, q, rfl, hs⟩
            have HS := Lib.hid hs; clear hs
            go_wp2_with fail
            go_roundw
            case rel => exact ⟨k + 1, hlt, h200, by go_num, HS.out⟩
            case measure => simp [intOf]; omega
        · go_wp2_with fail
          go_meet
          exact (HI.out.more (by omega)).ext ((Ext.refl wr).alloc _)
      · have HI := Lib.hid hI
        clear hI
        go_wp2_with fail
        go_meet
        exact HI.out.more (by omega)
  case rest =>
    obtain ⟨ws, L, hwl, hL, F, m3, x3, f3⟩ := hcut
    have M3 := Lib.hid m3
    clear hwl m3 h0
    go_wp2_with fail
    refine (last_ok wc F g ws 0 L 64 M3.out (by omega)).mono ?_
    rintro e w4 ⟨A4, c4, rfl, o4, x4⟩
    go_wp2_with fail
    refine (last_ok w4 F g ws 0 L (n2 % 65) (M3.out.ext x4) (by omega)).mono ?_
    rintro e w5 ⟨A5, c5, rfl, o5, x5⟩
    have M5 := Lib.hid ((M3.out.ext x4).ext x5)
    obtain ⟨k1, hk1⟩ : ∃ k1, min 64 L.length = k1 := ⟨_, rfl⟩
    obtain ⟨k2, hk2⟩ : ∃ k2, min (n2 % 65) L.length = k2 := ⟨_, rfl⟩
    obtain ⟨l, hl⟩ : ∃ l, L.length = l := ⟨_, rfl⟩
    rw [hk1] at o4 ⊢
    rw [hk2] at o5 ⊢
    have O4 := Lib.hid (own_ext o4 x5); have O5 := Lib.hid o5
    have CN := Lib.hid (mcount_any w5 F g ws 0 L M5.out)
    have XF := Lib.hid (x3.trans (x4.trans x5))
    rw [hl] at CN
    clear o4 o5 x4 x5 M3
    have q1 : k1 ≤ l := by omega
    have q2 : k2 ≤ k1 := by omega
    have q3 : (if (64 : Int) < (l : Int) then (64 : Int) else (l : Int)) = (k1 : Int) := by split <;> omega
    have q4 : (if ((n2 : Int) % 65) < (k1 : Int) then ((n2 : Int) % 65) else (k1 : Int)) = (k2 : Int) := by split <;> omega
    have HK1 := Lib.hid hk1; have HK2 := Lib.hid hk2; have HL := Lib.hid hl
    clear hk1 hk2 hl
    go_wp2_with fail
    refine CN.out.mono ?_
    rintro e w6 ⟨rfl, rfl⟩
    go_wp2_with fail
    go_loopw [112] (fun i wr => ∃ k : Nat, k ≤ k2 ∧ i = .int .i64 (k : Int) ∧ Ext w5 wr) (fun i _ => k2 - (intOf i).toNat)
    case atStart => exact ⟨0, Nat.zero_le _, rfl, Ext.refl w5⟩
    case round =>
      obtain ⟨i, hi, rfl, hx⟩ := hrel
      by_cases hlt : i < k2
      · obtain ⟨a, ha⟩ : ∃ a, L[l - k2 + i]? = some a := ⟨_, List.getElem?_eq_getElem (by have := HL.out; omega)⟩
        obtain ⟨d, hd⟩ : ∃ d, k1 = d + k2 := ⟨k1 - k2, by omega⟩
        have e5 : (L.drop (L.length - k2))[i]? = some a := by rw [List.getElem?_drop, HL.out]; exact ha
        have e4 : (L.drop (L.length - k1))[d + i]? = some a := by rw [List.getElem?_drop, HL.out, ← ha]; congr 1; omega
        obtain ⟨g5, rfl, _, lt5⟩ := own_block O5.out (by omega)
        obtain ⟨g4, rfl, _, lt4⟩ := own_block O4.out (by omega)
        have cell5 : ∀ j u, a.cells[j]? = some u → wr.cell? ⟨g5, i * 6 + j, none⟩ = some u := fun j u hu => by
          have hj : j < 6 := (List.getElem?_eq_some_iff.1 hu).1
          exact ext_cell hx ((O5.out.cellAt (i * 6 + j) (by omega)).trans ((accs_get e5 j hj).trans hu))
        have cell4 : ∀ j u, a.cells[j]? = some u → wr.cell? ⟨g4, (d + i) * 6 + j, none⟩ = some u := fun j u hu => by
          have hj : j < 6 := (List.getElem?_eq_some_iff.1 hu).1
          exact ext_cell hx ((O4.out.cellAt ((d + i) * 6 + j) (by omega)).trans ((accs_get e4 j hj).trans hu))
        have a0 : wr.cell? ⟨g5, i * 6, none⟩ = some (.int .i64 a.who) := cell5 0 _ rfl; have a1 := cell5 1 _ rfl; have a2 := cell5 2 _ rfl; have a3 := cell5 3 _ rfl; have a4 := cell5 4 _ rfl; have a5 := cell5 5 _ rfl
        obtain ⟨wo, hwo⟩ : ∃ wo, wr.alloc (.cells #[.int .i64 a.who, .int .u8 a.kind, .int .i64 a.word, .int .u64 (a.old : Int), .int .u64 (a.new : Int), .bool a.done] 42) = wo := ⟨_, rfl⟩
        have hgs := Lib.hid (show wo.heap[wr.heap.size]? = some (.cells #[.int .i64 a.who, .int .u8 a.kind, .int .i64 a.word, .int .u64 (a.old : Int), .int .u64 (a.new : Int), .bool a.done] 42 (0, 0)) by rw [← hwo]; exact blk_new wr _)
        have xo : Ext wr wo := by rw [← hwo]; exact (Ext.refl wr).alloc _
        have HX := Lib.hid hx
        have hdd : (k1 : Int) - (k2 : Int) = (d : Int) := by omega
        have HXO := Lib.hid (hx.trans xo)
        have C4 := Lib.hid cell4; have XO := Lib.hid xo
        clear ha hd e5 e4 cell5 cell4 lt5 lt4 hx q1 q2 q3 q4 xo
        have hkk : (k1 : Int) ≤ 64 := by have := HK1.out; omega
        have hdl : (d : Int) ≤ 64 := by omega
        have hw1 : IntKind.i64.wrap ((k1 : Int) - (k2 : Int)) = (d : Int) := by rw [hdd, IntKind.wrap_i64]; omega
        have hw2 : IntKind.i64.wrap ((d : Int) + (i : Int)) = ((d + i : Nat) : Int) := by rw [IntKind.wrap_i64]; omega
        go_upto_region 25 with fail
        (try rw [hwo])
        clear hwo a0 a1 a2 a3 a4 a5
        have a0 := blk_cell hgs.out 0; have a1 := blk_cell hgs.out 1; have a2 := blk_cell hgs.out 2; have a3 := blk_cell hgs.out 3; have a4 := blk_cell hgs.out 4; have a5 := blk_cell hgs.out 5
        have b0 : wo.cell? ⟨g4, (d + i) * 6, none⟩ = some (.int .i64 a.who) := ext_cell XO.out (C4.out 0 _ rfl)
        have b1 := ext_cell XO.out (C4.out 1 _ rfl); have b2 := ext_cell XO.out (C4.out 2 _ rfl); have b3 := ext_cell XO.out (C4.out 3 _ rfl); have b4 := ext_cell XO.out (C4.out 4 _ rfl); have b5 := ext_cell XO.out (C4.out 5 _ rfl)
        go_quiet (fail)
        go_wp2_with fail
        go_roundw
        case rel => exact ⟨i + 1, hlt, by go_num, HXO.out.drewN _⟩
        case measure => simp [intOf]; omega
      · go_wp2_with fail
        go_ret
        exact retTrue (XF.out.trans hx)
end Go.Proofs.Ytfjgpeffhbfihaa
