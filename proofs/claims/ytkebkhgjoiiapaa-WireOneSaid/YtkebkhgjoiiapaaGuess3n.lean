/- the document's guess: a release that is none. -/
import Derived.Test.YtkebkhgjoiiapaaGuess
namespace Go.Proofs.Ytkebkhgjoiiapaa
open Go.RowKit

set_option maxHeartbeats 2000000 in
set_option maxRecDepth 100000 in
theorem guess3_no (w : World) (b off n c : Nat) (ts : List Nat) (hn : n = ts.length + 1) (hnc : n ≤ c) (hn4 : n ≤ 4096) (hb : ∀ x ∈ ts, x < 256) (hno : ¬ IsTok ts) (hr : Rd w (some ⟨b, off, none⟩) (vals .u8 (3 :: ts))) :
    Calls Try.prog 73 #[.slice (some ⟨b, off, none⟩) n c] w (RetN w) := by
  obtain ⟨b', off', hA, c0⟩ := head_cell hr
  injection hA with hA; injection hA with e1 e2 _; subst e1 e2
  have hblk : b < w.heap.size := World.block_lt_of_cell? w _ c0
  have hn0 : ((n : Int) == 0) = false := by rw [beq_eq_false_iff_ne]; omega
  have hn1 : 0 < n := by omega
  have d00 := fun o o' => cell_past (cell_past c0 o) o'
  have d0 := cell_past c0
  obtain ⟨A', hsl, hrd, _⟩ := slice_from_any Try.underlying22 size_u8 (A := some ⟨b, off, none⟩) (n := n) (c := c) (m := ts.length) (d := c - 1) 1 (ki := 1) rfl hnc hn (by omega)
  have hrt : Rd w A' (vals .u8 ts) := hrd w _ (by rw [vals_len, List.length_cons, hn]) hr
  have Hrt := Lib.hid (fun o o' => (hrt.alloc o).alloc o')
  have Hn := Lib.hid hn
  have hn2 : ts.length + 1 ≤ n := by omega
  have hn3 : n ≤ ts.length + 1 := by omega
  clear c0 hr hrd hrt hn
  have Hb := Lib.hid hb; have Hno := Lib.hid hno; clear hb hno
  go_enter Try.func73, Try.ntmps73
  go_wp2_with fail
  refine (refDecode_none _ A' ts.length (c - 1) ts rfl Hb.out (Hrt.out _ _) (by omega) (by omega) Hno.out).mono ?_
  rintro e w1 ⟨rfl, hy1⟩
  have K2 := Lib.hid (blk_ext (blk_past (blk_new w (.cells #[.int .u8 0, .int .i64 0, .slice none 0 0, .int .i64 0] 71 (0, 0))) (.cells #[.int .u8 3, .int .i64 0, .slice none 0 0, .int .i64 0] 71 (0, 0))) hy1)
  have K4 : Hid (w1.heap[w.heap.size + 1]? = some (.cells #[.int .u8 3, .int .i64 0, .slice none 0 0, .int .i64 0] 71 (0, 0))) := blk_ext (blk_newk _ _ (by simp)) hy1
  have hx1 : Ext w w1 := (((Ext.refl w).alloc _).alloc _).trans hy1
  have hs1 : w.heap.size + 2 ≤ w1.heap.size := by have := hy1.size; simpa using this
  go_upto_region 7 with fail
  obtain ⟨W, hW⟩ : ∃ W, w1.alloc (.cells #[.int .i64 (0 : Int), .slice none 0 0, .int .i64 (0 : Int)] 56) = W := ⟨_, rfl⟩
  have hyW : Ext w1 W := by rw [← hW]; exact (Ext.refl w1).alloc _
  have KT : Hid (W.heap[w1.heap.size]? = some (.cells #[.int .i64 (0 : Int), .slice none 0 0, .int .i64 (0 : Int)] 56 (0, 0))) := by rw [← hW]; exact blk_new _ _
  have KC := Lib.hid (blk_ext K4.out hyW); have KR := Lib.hid (blk_ext K2.out hyW)
  have hxW := hx1.trans hyW
  rw [hW]
  clear hW hyW K2 K4 d0 d00 Hrt hsl
  have t0 := blk_cell KT.out 0; have t1 := blk_cell KT.out 1; have t2 := blk_cell KT.out 2
  have u0 := blk_cell KC.out 0; have u1 := blk_cell KC.out 1; have u2 := blk_cell KC.out 2; have u3 := blk_cell KC.out 3
  have f0 := blk_frozen KC.out 0; have f1 := blk_frozen KC.out 1; have f2 := blk_frozen KC.out 2; have f3 := blk_frozen KC.out 3
  have hne : ¬ w.heap.size + 1 = w1.heap.size := by omega
  have hne' : ¬ w1.heap.size = w.heap.size + 1 := by omega
  go_cut [4] (fun v4 wd => v4 = .pointer (some ⟨w.heap.size + 1, 0, none⟩) ∧ wd.heap[w.heap.size + 1]? = some (.cells #[.int .u8 3, .int .i64 (0 : Int), .slice none 0 0, .int .i64 (0 : Int)] 71 (0, 0)) ∧ W.grownBy wd (some (w.heap.size + 1)))
  case first =>
    go_region
    all_goals
      go_wp2_with fail
      go_meet
      first
      | exact ⟨rfl, blk_set (blk_set (blk_set KC.out 1 _) 2 _) 3 _, grown_setCell (grown_setCell (grown_set W (w.heap.size + 1) 1 _) 2 _) 3 _⟩
      | exact ⟨rfl, blk_set (blk_set (blk_set KC.out 1 _) 2 _) 3 _, grown_drew (grown_setCell (grown_setCell (grown_set W (w.heap.size + 1) 1 _) 2 _) 3 _)⟩
      | exact ⟨rfl, blk_set (blk_set (blk_set KC.out 1 _) 2 _) 3 _, grown_undrew (grown_setCell (grown_setCell (grown_set W.drew (w.heap.size + 1) 1 _) 2 _) 3 _)⟩
  case rest =>
    obtain ⟨rfl, hC, hG⟩ := hcut
    have KC' := Lib.hid hC; have KR' := Lib.hid (blk_grown' KR.out hG (by omega))
    have hxc := ext_grown hxW hG (by omega)
    clear hC t0 t1 t2 u0 u1 u2 u3 f0 f1 f2 f3 KC KR KT
    have c0 := blk_cell KC'.out 0; have c1 := blk_cell KC'.out 1; have c2 := blk_cell KC'.out 2; have c3 := blk_cell KC'.out 3
    have k0 := blk_cell KR'.out 0; have k1 := blk_cell KR'.out 1; have k2 := blk_cell KR'.out 2; have k3 := blk_cell KR'.out 3
    have f0 := blk_frozen KR'.out 0; have f1 := blk_frozen KR'.out 1; have f2 := blk_frozen KR'.out 2; have f3 := blk_frozen KR'.out 3
    go_wp2_with fail
    refine bodyPost_ret (ret_call2 rfl rfl (row4 KR'.out _ _ _ _)) rfl ?_
    exact ⟨_, _, _, _, _, _, rfl, ext_row4 hxc (Nat.le_refl _) _ _ _ _⟩
end Go.Proofs.Ytkebkhgjoiiapaa
