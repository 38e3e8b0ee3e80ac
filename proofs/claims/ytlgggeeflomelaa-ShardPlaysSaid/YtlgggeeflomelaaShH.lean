/- shard: Start. -/
import Derived.Test.YtlgggeeflomelaaShG
namespace Go.Proofs.Ytlgggeeflomelaa
open Go.RowKit

theorem bclone_any (A : Option Addr) (n c : Nat) (xs : List Nat) (w : World) (hl : xs.length = n) (hn : n ≤ 140737488355328) (hr : Rd w A (vals .u8 xs)) : Calls Try.prog 66 #[.slice A n c] w (RetB xs w) := by
  cases A with
  | none =>
    have hx : xs = [] := by
      cases xs with
      | nil => rfl
      | cons x t =>
        obtain ⟨b, off, hA, _⟩ := hr (by simp [vals])
        cases hA
    subst hx
    exact (clone_nil w n c).mono fun e w' ⟨he, hw⟩ => ⟨none, 0, he, World.ownsRow_nil _ _ _ _, hw ▸ Ext.refl w⟩
  | some a => exact clone_some a n c xs w hl hn hr
/-- Start refuses the arguments -/
def ArgBad (who : Int) (op : Nat) (val : Int) : Prop := ¬ (0 ≤ who ∧ who < 64) ∨ op = 0 ∨ 4 < op ∨ ((op = 2 ∨ op = 3) ∧ ¬ (0 ≤ val ∧ val ≤ 4611686018427387903))
theorem form_no {val : Int} (h : ¬ (0 ≤ val ∧ val ≤ 4611686018427387903)) (w : World) : Calls Try.prog 64 #[.int .i64 val] w fun e w' => e = .returned (.bool false) ∧ w = w' := tform_bad val w (by omega)
theorem sstart_arg (w : World) (P K : Option Addr) (who val : Int) (op m d : Nat) (hb : ArgBad who op val) :
    Calls Try.prog 36 #[.pointer P, .int .i64 who, .int .u8 (op : Int), .slice K m d, .int .i64 val] w fun e w' => e = .returned (.int .i64 1) ∧ w = w' := by
  by_cases hw : 0 ≤ who ∧ who < 64
  · obtain ⟨k, rfl⟩ : ∃ k : Nat, who = (k : Int) := ⟨who.toNat, by omega⟩
    have IS := Lib.hid (sis_ok k w (by omega))
    have hb' : op = 0 ∨ 4 < op ∨ ((op = 2 ∨ op = 3) ∧ ¬ (0 ≤ val ∧ val ≤ 4611686018427387903)) := hb.resolve_left (fun h => h hw)
    clear hb
    rcases hb' with rfl | h4 | ⟨rfl | rfl, hv⟩
    · go_enter Try.func36, Try.ntmps36
      go_wp2_with fail
      refine IS.out.mono ?_
      rintro e w1 ⟨rfl, rfl⟩
      go_wp2_with fail
      go_ret
      exact ⟨rfl, rfl⟩
    · have q1 : ¬ (op : Int) < 1 := by omega
      have q2 : (4 : Int) < (op : Int) := by omega
      clear h4
      go_enter Try.func36, Try.ntmps36
      go_wp2_with fail
      refine IS.out.mono ?_
      rintro e w1 ⟨rfl, rfl⟩
      go_wp2_with fail
      go_ret
      exact ⟨rfl, rfl⟩
    · have FM := Lib.hid (form_no hv w)
      clear hv
      go_enter Try.func36, Try.ntmps36
      go_wp2_with fail
      refine IS.out.mono ?_
      rintro e w1 ⟨rfl, rfl⟩
      go_wp2_with fail
      refine FM.out.mono ?_
      rintro e w1 ⟨rfl, rfl⟩
      go_wp2_with fail
      go_ret
      exact ⟨rfl, rfl⟩
    · have FM := Lib.hid (form_no hv w)
      clear hv
      go_enter Try.func36, Try.ntmps36
      go_wp2_with fail
      refine IS.out.mono ?_
      rintro e w1 ⟨rfl, rfl⟩
      go_wp2_with fail
      refine FM.out.mono ?_
      rintro e w1 ⟨rfl, rfl⟩
      go_wp2_with fail
      go_ret
      exact ⟨rfl, rfl⟩
  · have IS := Lib.hid (sis_bad who w hw)
    clear hb hw
    go_enter Try.func36, Try.ntmps36
    go_wp2_with fail
    refine IS.out.mono ?_
    rintro e w1 ⟨rfl, rfl⟩
    go_wp2_with fail
    go_ret
    exact ⟨rfl, rfl⟩
set_option maxHeartbeats 1000000 in
set_option maxRecDepth 100000 in
theorem sstart_long (w : World) (P K : Option Addr) (who op m d : Nat) (val : Int) (hw : who < 64) (h1 : 1 ≤ op) (h4 : op ≤ 4) (hv : op = 2 ∨ op = 3 → 0 ≤ val ∧ val ≤ 4611686018427387903) (hm : 256 < m) :
    Calls Try.prog 36 #[.pointer P, .int .i64 (who : Int), .int .u8 (op : Int), .slice K m d, .int .i64 val] w fun e w' => e = .returned (.int .i64 2) ∧ w = w' := by
  have IS := Lib.hid (sis_ok who w hw)
  have hm' : (256 : Int) < (m : Int) := by omega
  rcases (by omega : op = 1 ∨ op = 2 ∨ op = 3 ∨ op = 4) with rfl | rfl | rfl | rfl
  all_goals
    first
      | (have FM := Lib.hid (tform_ok val w (hv (by decide)).1 (hv (by decide)).2))
      | skip
    clear hv
    go_enter Try.func36, Try.ntmps36
    go_wp2_with fail
    refine IS.out.mono ?_
    rintro e w1 ⟨rfl, rfl⟩
    go_wp2_with fail
    first
      | (refine FM.out.mono ?_
         rintro e w1 ⟨rfl, rfl⟩
         go_wp2_with fail)
      | skip
    go_ret
    exact ⟨rfl, rfl⟩
set_option maxHeartbeats 1000000 in
set_option maxRecDepth 100000 in
theorem sstart_nil (w : World) (K : Option Addr) (who op m d : Nat) (val : Int) (hw : who < 64) (h1 : 1 ≤ op) (h4 : op ≤ 4) (hv : op = 2 ∨ op = 3 → 0 ≤ val ∧ val ≤ 4611686018427387903) (hm : m ≤ 256) :
    Calls Try.prog 36 #[.pointer none, .int .i64 (who : Int), .int .u8 (op : Int), .slice K m d, .int .i64 val] w fun e w' => e = .returned (.int .i64 7) ∧ w = w' := by
  have IS := Lib.hid (sis_ok who w hw)
  have hm' : ¬ (256 : Int) < (m : Int) := by omega
  rcases (by omega : op = 1 ∨ op = 2 ∨ op = 3 ∨ op = 4) with rfl | rfl | rfl | rfl
  all_goals
    first
      | (have FM := Lib.hid (tform_ok val w (hv (by decide)).1 (hv (by decide)).2))
      | skip
    clear hv
    go_enter Try.func36, Try.ntmps36
    go_wp2_with fail
    refine IS.out.mono ?_
    rintro e w1 ⟨rfl, rfl⟩
    go_wp2_with fail
    first
      | (refine FM.out.mono ?_
         rintro e w1 ⟨rfl, rfl⟩
         go_wp2_with fail)
      | skip
    go_ret
    exact ⟨rfl, rfl⟩
set_option maxHeartbeats 1000000 in
set_option maxRecDepth 100000 in
theorem sstart_busy (w : World) (C F : Nat → Prop) (gx gb : Nat) (L : List AccE) (s : SSt) (K : Option Addr) (who op m d : Nat) (val : Int) (h : ShAt w C F gx gb L s) (hb : s.call who ≠ .idle) (hw : who < 64) (h1 : 1 ≤ op) (h4 : op ≤ 4) (hv : op = 2 ∨ op = 3 → 0 ≤ val ∧ val ≤ 4611686018427387903) (hm : m ≤ 256) :
    Calls Try.prog 36 #[.pointer (some ⟨gx, 0, none⟩), .int .i64 (who : Int), .int .u8 (op : Int), .slice K m d, .int .i64 val] w fun e w' => e = .returned (.int .i64 9) ∧ w = w' := by
  obtain ⟨f, xf, -, -, pv, -⟩ := h.pend hw
  obtain ⟨f1, c1, rfl⟩ := pendS_func2 pv hb
  have hq1 : ∀ (f : FuncId) (c : Array Value) (u : World), (binOp .neq 143 (.func (.func f) #[] c) .nilFunc).run Try.prog u = .ok (.bool true) u := fun _ _ _ => rfl
  have IS := Lib.hid (sis_ok who w hw)
  have hm' : ¬ (256 : Int) < (m : Int) := by omega
  clear pv h hb
  rcases (by omega : op = 1 ∨ op = 2 ∨ op = 3 ∨ op = 4) with rfl | rfl | rfl | rfl
  all_goals
    first
      | (have FM := Lib.hid (tform_ok val w (hv (by decide)).1 (hv (by decide)).2))
      | skip
    clear hv
    go_enter Try.func36, Try.ntmps36
    go_wp2_with fail
    refine IS.out.mono ?_
    rintro e w1 ⟨rfl, rfl⟩
    go_wp2_with fail
    first
      | (refine FM.out.mono ?_
         rintro e w1 ⟨rfl, rfl⟩
         go_wp2_with fail)
      | skip
    go_ret
    exact ⟨rfl, rfl⟩
end Go.Proofs.Ytlgggeeflomelaa
