/- WireReads answers true. -/
import Derived.Test.YtkebkhgjoiiapaaWireAwake
import Derived.Test.YtkebkhgjoiiapaaWireC
import Derived.Test.YtkebkhgjoiiapaaDocRead
namespace Go.Proofs.Ytkebkhgjoiiapaa
open Go.RowKit

set_option maxHeartbeats 4000000 in
set_option maxRecDepth 100000 in
theorem wireReads_walk (w : World) (A : Option Addr) (n c : Nat) (xs : List Nat) (hl : xs.length = n) (hb : ∀ x ∈ xs, x < 256) (hr : Rd w A (vals .u8 xs)) (hnc : n ≤ c) (hz : n ≤ 140737488351232) :
    Calls Try.prog 12 #[.slice A n c] w (RetTrue w) := by
  have hcs := read_cases xs n hl hb
  have Hl := Lib.hid hl; have Hb := Lib.hid hb; have Hr := Lib.hid hr; clear hl hb hr
  rcases hcs with ⟨q, hq, _, _, C1, C2⟩ | ⟨op, p, ks, N, hNorm, hxs, hn16, C1, C2⟩
  · have HC1 := Lib.hid C1; have HC2 := Lib.hid C2; clear C1 C2
    have hq' : (q != 0) = true := by simp [bne, hq]
    go_enter Try.func12, Try.ntmps12
    go_wp2_with fail
    refine (wireAwake _).mono ?_
    rintro e w1 ⟨rfl, hx1⟩
    go_wp2_with fail
    refine (spare_any A n c xs w1 Hl.out hz (Hr.out.ext hx1)).mono ?_
    rintro e w2 ⟨A2, cap2, rfl, hf, hy2⟩
    rw [Hl.out] at hf ⊢
    have hx2 := hx1.trans hy2
    have hcf := own_cap hf
    have hrf := Lib.hid (Rd.of_own hf)
    have hrk := Lib.hid (rd_take hrf.out)
    clear hf
    go_wp2_with fail
    refine (HC1.out w2 A2 cap2 hrk.out (by omega)).mono ?_
    rintro e w3 ⟨rfl, hy3⟩
    have hx3 := hx2.trans hy3
    go_wp2_with fail
    refine (HC2.out _ A c ((Hr.out.ext hx3).alloc _) hnc).mono ?_
    rintro e w4 ⟨rfl, hy4⟩
    have K4 := Lib.hid (blk_ext (blk_new w3 (.cells #[.int .u8 0, .int .i64 0, .slice none 0 0, .int .i64 0] 71 (0, 0))) hy4)
    have hx4 : Ext w w4 := hx3.trans (((Ext.refl w3).alloc _).trans hy4)
    have k0 := cell_past (blk_cell K4.out 0); have k1 := cell_past (blk_cell K4.out 1); have k2 := cell_past (blk_cell K4.out 2); have k3 := cell_past (blk_cell K4.out 3)
    go_wp2_with fail
    refine (callSame_any _ 0 0 0 0 0 0 none none 0 0 0 0 [] [] rfl rfl (by omega) (by simp) (by simp) (Rd.nil _ _) (Rd.nil _ _)).mono ?_
    rintro e w5 ⟨rfl, hy5⟩
    rw [show decide ((0 : Int) = 0 ∧ (0 : Int) = 0 ∧ ([] : List Nat) = [] ∧ (0 : Int) = 0) = true by simp]
    have hy25 : Ext w2 w5 := hy3.trans ((((Ext.refl w3).alloc _).trans hy4).trans (((Ext.refl w4).alloc _).trans hy5))
    have hx5 := hx2.trans hy25
    have C3 := Lib.hid (kept_true A2 A n (n + 3) cap2 c xs w5 Hl.out rfl hcf (by omega) Hb.out (hrf.out.ext hy25) (Hr.out.ext hx5))
    clear k0 k1 k2 k3
    go_wp2_with fail
    refine (toE_q C3.out).mono ?_
    rintro e w6 ⟨rfl, hy6⟩
    go_wp2_with fail
    go_ret
    exact retTrue (hx5.trans hy6)
  · have HC1 := Lib.hid C1; have HC2 := Lib.hid C2; have Hxs := Lib.hid hxs; have Hkb := Lib.hid hNorm.2.1; have HNorm := Lib.hid hNorm
    have hk := norm_len hNorm
    obtain ⟨k, Hkl⟩ : ∃ k, Hid (ks.length = k) := ⟨_, rfl⟩
    rw [Hkl.out] at hk
    clear C1 C2 hxs hNorm
    go_enter Try.func12, Try.ntmps12
    go_wp2_with fail
    refine (wireAwake _).mono ?_
    rintro e w1 ⟨rfl, hx1⟩
    go_wp2_with fail
    refine (spare_any A n c xs w1 Hl.out hz (Hr.out.ext hx1)).mono ?_
    rintro e w2 ⟨A2, cap2, rfl, hf, hy2⟩
    rw [Hl.out] at hf ⊢
    have hx2 := hx1.trans hy2
    have hcf := own_cap hf
    have hrf := Lib.hid (Rd.of_own hf)
    have hrk := Lib.hid (rd_take hrf.out)
    have hfl := Lib.hid (own_lt hf)
    clear hf
    go_wp2_with fail
    refine (HC1.out w2 A2 cap2 hrk.out (by omega)).mono ?_
    rintro e w3 ⟨A3, c3, rfl, hown3, hy3⟩
    rw [Hkl.out] at hown3 ⊢
    have hx3 := hx2.trans hy3
    have Hown3 := Lib.hid hown3; clear hown3
    go_wp2_with fail
    refine (HC2.out _ A c ((Hr.out.ext hx3).alloc _) hnc).mono ?_
    rintro e w4 ⟨A4, c4, rfl, hown4, hy4⟩
    rw [Hkl.out] at hown4 ⊢
    have K4 := Lib.hid (blk_ext (blk_new w3 (.cells #[.int .u8 (op : Int), .int .i64 (p : Int), .slice A3 k c3, .int .i64 (N : Int)] 71 (0, 0))) hy4)
    have hy34 : Ext w3 w4 := ((Ext.refl w3).alloc _).trans hy4
    have hx4 : Ext w w4 := hx3.trans hy34
    have k0 := cell_past (blk_cell K4.out 0); have k1 := cell_past (blk_cell K4.out 1); have k2 := cell_past (blk_cell K4.out 2); have k3 := cell_past (blk_cell K4.out 3)
    have Hown4 := Lib.hid hown4; clear hown4
    go_wp2_with fail
    refine (callSame_any _ (op : Int) op (p : Int) p (N : Int) N A3 A4 k c3 k c4 ks ks Hkl.out Hkl.out (by omega) Hkb.out Hkb.out (((Rd.of_own Hown3.out).ext hy34).alloc _) ((Rd.of_own Hown4.out).alloc _)).mono ?_
    rintro e w5 ⟨rfl, hy5⟩
    rw [show decide ((op : Int) = op ∧ (p : Int) = p ∧ ks = ks ∧ (N : Int) = N) = true by simp]
    have hy45 : Ext w4 w5 := ((Ext.refl w4).alloc _).trans hy5
    have hy35 := hy34.trans hy45
    have hy25 : Ext w2 w5 := hy3.trans hy35
    have hx5 := hx2.trans hy25
    have C3 := Lib.hid (kept_true A2 A n (n + 3) cap2 c xs w5 Hl.out rfl hcf (by omega) Hb.out (hrf.out.ext hy25) (Hr.out.ext hx5))
    clear k0 k1 k2 k3
    go_wp2_with fail
    refine (toE_q C3.out).mono ?_
    rintro e w6 ⟨rfl, hy6⟩
    have K6 := Lib.hid (blk_ext K4.out (hy45.trans hy6))
    have hx6 := hx5.trans hy6
    have hy36 := hy35.trans hy6
    have k0 := blk_cell K6.out 0; have k1 := blk_cell K6.out 1; have k2 := blk_cell K6.out 2; have k3 := blk_cell K6.out 3
    go_wp2_with fail
    refine (req_norm HNorm.out Hkl.out A3 c3 w6 ((Rd.of_own Hown3.out).ext hy36)).mono ?_
    rintro e w7 ⟨A7, c7, rfl, hown7, hy7⟩
    have hL : (reqB op p ks N).length = n := by rw [← Hxs.out, Hl.out]
    rw [hL, ← Hxs.out] at hown7
    rw [hL]
    have hx7 := hx6.trans hy7
    have hy37 := hy36.trans hy7
    have hy27 := hy3.trans hy37
    have K7 := Lib.hid (blk_ext K6.out hy7)
    have Ho7 := Lib.hid (own_ext Hown3.out hy37)
    have Hback := Lib.hid (Rd.of_own hown7)
    have Hbl := Lib.hid (own_ge hown7)
    have Hbl2 := Lib.hid (own_lt hown7)
    have Hkey := Lib.hid (own_lt Hown3.out)
    have s37 : w3.heap.size < w7.heap.size := blk_lt K7.out
    have s36 : w3.heap.size < w6.heap.size := blk_lt K6.out
    have s23 : w2.heap.size ≤ w3.heap.size := hy3.size
    clear k0 k1 k2 k3 hown7 hL
    have c1 := blk_cell K7.out 2
    go_wp2_with fail
    go_loopw [11, 54] (fun _ i wr => ∃ (j : Nat) (L : List Nat), j ≤ k ∧ i = .int .i64 (j : Int) ∧ (∀ x ∈ L, x < 256) ∧ wr.ownsRow w2.heap.size 5 1 (.slice A3 k c3) k (vals .u8 L) ∧ w7.grownBy wr (Value.slice A3 k c3).ownBlock) (fun _ i _ => k - (intOf i).toNat)
    case atStart => exact ⟨0, ks, Nat.zero_le _, rfl, Hkb.out, Ho7.out, World.grownBy.refl _ _⟩
    case round =>
      obtain ⟨j, L, hj, rfl, hL, ho, hg⟩ := hrel
      have HL := Lib.hid hL; clear hL
      have hkr : Hid (wr.heap[w3.heap.size]? = some (.cells #[.int .u8 (op : Int), .int .i64 (p : Int), .slice A3 k c3, .int .i64 (N : Int)] 71 (0, 0))) := by
        refine (hg.block w3.heap.size s37 fun e => ?_).trans K7.out
        cases hA : A3 with
        | none => rw [hA] at e; cases e
        | some a => rw [hA] at e; injection e with e; have := Hkey.out a hA; omega
      have e1 := blk_cell hkr.out 2
      by_cases hlt : j < k
      · obtain ⟨g, hA3, hg1, hg2⟩ := own_block ho (by omega)
        subst hA3
        have hc0 := ho.cellAt j (by omega)
        obtain ⟨y, hy⟩ := get_of_lt (xs := L) (j := j) (by have := ho.1; rw [vals_len] at this; omega)
        have hy256 := HL.out y (List.mem_of_getElem? hy)
        rw [vals_get hy] at hc0
        have hfz := ho.frozenAt j
        have hst := Lib.hid (ho.stored j (.int .u8 (((y + 1) % 256 : Nat) : Int)))
        have hwy := Lib.hid (show IntKind.u8.wrap ((y : Int) + 1) = (((y + 1) % 256 : Nat) : Int) by rw [IntKind.wrap_u8]; omega)
        clear hy
        have Ho := Lib.hid ho; have Hg := Lib.hid hg; clear ho hg
        go_wp2
        go_roundw
        case rel => exact ⟨j + 1, L.set j ((y + 1) % 256), by omega, by go_num, mem_set HL.out (by omega), by rw [vals_set]; first | exact hst.out.1 | (rw [hwy.out]; exact hst.out.1), by first | exact World.grown_trans Hg.out hst.out.2 | (rw [hwy.out]; exact World.grown_trans Hg.out hst.out.2)⟩
        case measure => simp [intOf]; omega
      · have f1 := blk_frozen hkr.out 2
        go_wp2_with (first | (at_builtin; refine app_u8 _ rfl (.tmp 66) (.tmp 67) rfl w2.heap.size rfl (ho.alloc _) rfl (m := 1) (news := [1]) rfl (rd_new _ _ _) (by omega) (by have := hg.size; simp; omega) ?_; intro A8 c8 w8 hown8 hgrow8 _; have hg8 := World.grown_trans (World.grown_trans hg (World.grownBy_alloc wr _ _)) hgrow8; have hk8 : Hid (w8.heap[w3.heap.size]? = some (.cells #[.int .u8 (op : Int), .int .i64 (p : Int), .slice A3 k c3, .int .i64 (N : Int)] 71 (0, 0))) := (by
            refine (hg8.block w3.heap.size s37 fun e => ?_).trans K7.out
            cases hA : A3 with
            | none => rw [hA] at e; cases e
            | some a => rw [hA] at e; injection e with e; have := Hkey.out a hA; omega); have h1 := blk_cell hk8.out 2; have h2 := blk_frozen hk8.out 2) | (fail))
        have hrow : ∀ q, (Value.slice A3 k c3).ownBlock = some q → w2.heap.size ≤ q ∧ q < w3.heap.size := fun q hq => ⟨own_ge ho q hq, by
          cases hA : A3 with
          | none => rw [hA] at hq; cases hq
          | some a => rw [hA] at hq; injection hq with hq; have := Hkey.out a hA; omega⟩
        have s2 : w.heap.size ≤ w2.heap.size := hx2.size
        have hx8 : Ext w w8 := hx7.grown hg8 (fun q hq => by have := hrow q hq; omega)
        have hb8 : Rd w8 A7 (vals .u8 xs) := Hback.out.grown hg8 (fun a ha e => by
          have := hrow _ e.symm.symm
          have := Hbl.out a.block (by rw [ha]; rfl)
          omega)
        have hf8 : Rd w8 A2 (vals .u8 (xs ++ [165, 90, 165])) := (hrf.out.ext hy27).grown hg8 (fun a ha e => by
          have := hrow _ e.symm.symm
          have := hfl.out a ha
          omega)
        have hr8 : Rd w8 A (vals .u8 xs) := Hr.out.ext hx8
        obtain ⟨w9, hw9⟩ : ∃ w9, w8.setCell ⟨w3.heap.size, 2, none⟩ (.slice A8 (k + 1) c8) = w9 := ⟨_, rfl⟩
        have hg9 : w8.grownBy w9 (some w3.heap.size) := hw9 ▸ grown_set w8 w3.heap.size 2 _
        have hk9 : w9.heap[w3.heap.size]? = some (.cells #[.int .u8 (op : Int), .int .i64 (p : Int), .slice A8 (k + 1) c8, .int .i64 (N : Int)] 71 (0, 0)) := hw9 ▸ blk_set hk8.out 2 _
        have s3 : w.heap.size ≤ w3.heap.size := hx3.size
        have hx9 : Ext w w9 := hx8.grown hg9 (fun q hq => by injection hq with hq; omega)
        have hb9 : Rd w9 A7 (vals .u8 xs) := hb8.grown hg9 (fun a ha e => by
          injection e with e
          have := Hbl.out a.block (by rw [ha]; rfl)
          omega)
        have hf9 : Rd w9 A2 (vals .u8 (xs ++ [165, 90, 165])) := hf8.grown hg9 (fun a ha e => by
          injection e with e
          have := hfl.out a ha
          omega)
        rw [hw9]
        have Hk9 := Lib.hid hk9
        have C4 := Lib.hid (same_any A7 A n c7 n c xs xs w9 Hl.out Hl.out (by omega) Hb.out Hb.out hb9 (Hr.out.ext hx9))
        have C5 := Lib.hid (fun W (hx : Ext w9 W) => kept_true A2 A n (n + 3) cap2 c xs W Hl.out rfl hcf (by omega) Hb.out (hf9.ext hx) (Hr.out.ext (hx9.trans hx)))
        clear hb8 hf8 hr8 hb9 hf9 hg9 hw9 hg hg8 hgrow8 hown8 ho e1 f1 h1 h2 hk9 hx8 c1 hk8 hkr hrow
        go_wp2_with fail
        refine (toE_q C4.out).mono ?_
        rintro e w10 ⟨rfl, hy10⟩
        rw [show same xs xs = true from decide_eq_true rfl]
        go_wp2_with fail
        refine (toE_q (C5.out w10 hy10)).mono ?_
        rintro e w11 ⟨rfl, hy11⟩
        have m1 := blk_cell (blk_ext Hk9.out (hy10.trans hy11)) 2
        go_wp2_with fail
        go_ret
        exact ⟨ret_bool (by simp <;> omega), (hx9.trans hy10).trans hy11⟩
end Go.Proofs.Ytkebkhgjoiiapaa
