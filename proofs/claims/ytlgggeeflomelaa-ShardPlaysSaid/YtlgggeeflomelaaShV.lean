/- spigotref14: Right, New, Pending, DocStart; the document's shard in memory. -/
import Derived.Test.YtlgggeeflomelaaShT
namespace Go.Proofs.Ytlgggeeflomelaa
open Go.RowKit

theorem rformY (N : Int) (w : World) (h : 0 ≤ N) (h' : N ≤ 4611686018427387903) : Calls Try.prog 96 #[.int .i64 N] w fun e w' => e = .returned (.bool true) ∧ w = w' := by
  go_enter Try.func96, Try.ntmps96
  go_wp2
  go_ret
  exact ⟨rfl, rfl⟩
theorem rformN (N : Int) (w : World) (h : ¬ (0 ≤ N ∧ N ≤ 4611686018427387903)) : Calls Try.prog 96 #[.int .i64 N] w fun e w' => e = .returned (.bool false) ∧ w = w' := by
  by_cases h0 : 0 ≤ N
  · have h1 : ¬ N ≤ 4611686018427387903 := fun e => h ⟨h0, e⟩
    clear h
    go_enter Try.func96, Try.ntmps96
    go_wp2
    go_ret
    exact ⟨rfl, rfl⟩
  · clear h
    go_enter Try.func96, Try.ntmps96
    go_wp2
    go_ret
    exact ⟨rfl, rfl⟩
theorem rright_arg (w : World) (K : Option Addr) (who val : Int) (op m d : Nat) (hb : ArgBad who op val) :
    Calls Try.prog 69 #[.int .i64 who, .int .u8 (op : Int), .slice K m d, .int .i64 val] w fun e w' => e = .returned (.int .i64 1) ∧ w = w' := by
  by_cases h0 : who < 0
  · clear hb
    go_enter Try.func69, Try.ntmps69
    go_wp2_with fail
    go_ret
    exact ⟨rfl, rfl⟩
  · by_cases h6 : 63 < who
    · clear hb
      go_enter Try.func69, Try.ntmps69
      go_wp2_with fail
      go_ret
      exact ⟨rfl, rfl⟩
    · have hb' : op = 0 ∨ 4 < op ∨ ((op = 2 ∨ op = 3) ∧ ¬ (0 ≤ val ∧ val ≤ 4611686018427387903)) := hb.resolve_left (fun h => h (by omega))
      clear hb
      rcases hb' with rfl | h4 | ⟨rfl | rfl, hv⟩
      · go_enter Try.func69, Try.ntmps69
        go_wp2_with fail
        go_ret
        exact ⟨rfl, rfl⟩
      · have q1 : ¬ (op : Int) < 1 := by omega
        have q2 : (4 : Int) < (op : Int) := by omega
        clear h4
        go_enter Try.func69, Try.ntmps69
        go_wp2_with fail
        go_ret
        exact ⟨rfl, rfl⟩
      · have FM := Lib.hid (rformN val w hv)
        clear hv
        go_enter Try.func69, Try.ntmps69
        go_wp2_with fail
        refine FM.out.mono ?_
        rintro e w1 ⟨rfl, rfl⟩
        go_wp2_with fail
        go_ret
        exact ⟨rfl, rfl⟩
      · have FM := Lib.hid (rformN val w hv)
        clear hv
        go_enter Try.func69, Try.ntmps69
        go_wp2_with fail
        refine FM.out.mono ?_
        rintro e w1 ⟨rfl, rfl⟩
        go_wp2_with fail
        go_ret
        exact ⟨rfl, rfl⟩
set_option maxHeartbeats 1000000 in
set_option maxRecDepth 100000 in
theorem rright_ok (w : World) (K : Option Addr) (who op m d : Nat) (val : Int) (hw : who < 64) (h1 : 1 ≤ op) (h4 : op ≤ 4) (hv : op = 2 ∨ op = 3 → 0 ≤ val ∧ val ≤ 4611686018427387903) :
    Calls Try.prog 69 #[.int .i64 (who : Int), .int .u8 (op : Int), .slice K m d, .int .i64 val] w fun e w' => e = .returned (.int .i64 ((if 256 < m then 2 else 0 : Nat) : Int)) ∧ w = w' := by
  have h0 : ¬ (who : Int) < 0 := by omega
  have h6 : ¬ (63 : Int) < (who : Int) := by omega
  by_cases hm : 256 < m
  all_goals
    first | rw [if_pos hm] | rw [if_neg hm]
    first | (have hm' : (256 : Int) < (m : Int) := by omega) | (have hm' : ¬ (256 : Int) < (m : Int) := by omega)
    rcases (by omega : op = 1 ∨ op = 2 ∨ op = 3 ∨ op = 4) with rfl | rfl | rfl | rfl
    all_goals
      first
        | (have FM := Lib.hid (rformY val w (hv (by decide)).1 (hv (by decide)).2))
        | skip
      clear hv hm
      go_enter Try.func69, Try.ntmps69
      go_wp2_with fail
      first
        | (refine FM.out.mono ?_
           rintro e w1 ⟨rfl, rfl⟩
           go_wp2_with fail)
        | skip
      go_ret
      exact ⟨rfl, rfl⟩
theorem dstart_arg (w : World) (P K : Option Addr) (who val : Int) (op m d : Nat) (hb : ArgBad who op val) :
    Calls Try.prog 41 #[.pointer P, .int .i64 who, .int .u8 (op : Int), .slice K m d, .int .i64 val] w fun e w' => e = .returned (.int .i64 1) ∧ w = w' := by
  have RA := Lib.hid (rright_arg w K who val op m d hb)
  clear hb
  go_enter Try.func41, Try.ntmps41
  go_wp2_with fail
  refine RA.out.mono ?_
  rintro e w1 ⟨rfl, rfl⟩
  go_wp2_with fail
  go_ret
  exact ⟨rfl, rfl⟩
theorem dstart_long (w : World) (P K : Option Addr) (who op m d : Nat) (val : Int) (hw : who < 64) (h1 : 1 ≤ op) (h4 : op ≤ 4) (hv : op = 2 ∨ op = 3 → 0 ≤ val ∧ val ≤ 4611686018427387903) (hm : 256 < m) :
    Calls Try.prog 41 #[.pointer P, .int .i64 (who : Int), .int .u8 (op : Int), .slice K m d, .int .i64 val] w fun e w' => e = .returned (.int .i64 2) ∧ w = w' := by
  have RA := rright_ok w K who op m d val hw h1 h4 hv
  rw [if_pos hm] at RA
  have RA' := Lib.hid RA
  clear hv RA
  go_enter Try.func41, Try.ntmps41
  go_wp2_with fail
  refine RA'.out.mono ?_
  rintro e w1 ⟨rfl, rfl⟩
  go_wp2_with fail
  go_ret
  exact ⟨rfl, rfl⟩
theorem dstart_nil (w : World) (K : Option Addr) (who op m d : Nat) (val : Int) (hw : who < 64) (h1 : 1 ≤ op) (h4 : op ≤ 4) (hv : op = 2 ∨ op = 3 → 0 ≤ val ∧ val ≤ 4611686018427387903) (hm : m ≤ 256) :
    Calls Try.prog 41 #[.pointer none, .int .i64 (who : Int), .int .u8 (op : Int), .slice K m d, .int .i64 val] w fun e w' => e = .returned (.int .i64 7) ∧ w = w' := by
  have RA := rright_ok w K who op m d val hw h1 h4 hv
  rw [if_neg (by omega)] at RA
  have RA' := Lib.hid RA
  clear hv RA
  go_enter Try.func41, Try.ntmps41
  go_wp2_with fail
  refine RA'.out.mono ?_
  rintro e w1 ⟨rfl, rfl⟩
  go_wp2_with fail
  go_ret
  exact ⟨rfl, rfl⟩
set_option maxHeartbeats 1000000 in
set_option maxRecDepth 100000 in
theorem dstep_bad (w : World) (P : Option Addr) (who : Int) (hb : ¬ (0 ≤ who ∧ who < 64)) :
    Calls Try.prog 43 #[.pointer P, .int .i64 who] w (RetE (.tuple #[.agg #[.bool false, .int .i64 0, .int .i64 0], .int .i64 1]) w) := by
  by_cases h0 : who < 0
  · clear hb
    go_enter Try.func43, Try.ntmps43
    go_wp2_with fail
    refine bodyPost_ret (results_row_tmp (p := 4) (u := 5) rfl _ _ w.heap.size _ #[.bool false, .int .i64 0, .int .i64 0] (0, 0) _ rfl (blk_new w _) Try.underlying86 (by rfl) (by kernel_rfl)) rfl ?_
    exact ⟨rfl, (Ext.refl w).alloc _⟩
  · have h6 : 63 < who := by omega
    clear hb
    go_enter Try.func43, Try.ntmps43
    go_wp2_with fail
    refine bodyPost_ret (results_row_tmp (p := 4) (u := 5) rfl _ _ w.heap.size _ #[.bool false, .int .i64 0, .int .i64 0] (0, 0) _ rfl (blk_new w _) Try.underlying86 (by rfl) (by kernel_rfl)) rfl ?_
    exact ⟨rfl, (Ext.refl w).alloc _⟩
set_option maxHeartbeats 1000000 in
set_option maxRecDepth 100000 in
theorem dstep_nil (w : World) (who : Nat) (hw : who < 64) :
    Calls Try.prog 43 #[.pointer none, .int .i64 (who : Int)] w (RetE (.tuple #[.agg #[.bool false, .int .i64 0, .int .i64 0], .int .i64 7]) w) := by
  have h0 : ¬ (who : Int) < 0 := by omega
  have h6 : ¬ (63 : Int) < (who : Int) := by omega
  go_enter Try.func43, Try.ntmps43
  go_wp2_with fail
  refine bodyPost_ret (results_row_tmp (p := 4) (u := 5) rfl _ _ w.heap.size _ #[.bool false, .int .i64 0, .int .i64 0] (0, 0) _ rfl (blk_new w _) Try.underlying86 (by rfl) (by kernel_rfl)) rfl ?_
  exact ⟨rfl, (Ext.refl w).alloc _⟩
end Go.Proofs.Ytlgggeeflomelaa
