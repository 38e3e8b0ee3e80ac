/- the document's Same of calls. -/
import Derived.Test.YtkebkhgjoiiapaaUsed
import Derived.Test.YtkebkhgjoiiapaaDocReply
import Derived.Test.YtkebkhgjoiiapaaReadR
import Derived.Test.YtkebkhgjoiiapaaFrame
namespace Go.Proofs.Ytkebkhgjoiiapaa
open Go.RowKit

set_option maxHeartbeats 2000000 in
theorem callSame_any (w : World) (o o' p p' N N' : Int) (A B : Option Addr) (n c m d : Nat) (xs ys : List Nat) (hl : xs.length = n) (hl' : ys.length = m) (hn : n ≤ 9223372036854775807) (hb : ∀ x ∈ xs, x < 256) (hb' : ∀ x ∈ ys, x < 256) (hr : Rd w A (vals .u8 xs)) (hr' : Rd w B (vals .u8 ys)) :
    Calls Try.prog 43 #[callV o p A n c N, callV o' p' B m d N'] w (RetE (.bool (decide (o = o' ∧ p = p' ∧ xs = ys ∧ N = N'))) w) := by
  have C := Lib.hid (fun x y => same_any A B n c m d xs ys ((w.alloc x).alloc y) hl hl' hn hb hb' ((hr.alloc x).alloc y) ((hr'.alloc x).alloc y))
  clear hl hl' hb hb' hr hr'
  by_cases ho : o = o'
  · subst ho
    by_cases hp : p = p'
    · subst hp
      go_enter Try.func43, Try.ntmps43
      go_wp2_with fail
      refine (toE_q (C.out _ _)).mono ?_
      rintro e w1 ⟨rfl, hy1⟩
      have K0 := Lib.hid (blk_ext (blk_past (blk_new w (.cells #[.int .u8 o, .int .i64 p, .slice A n c, .int .i64 N] 71 (0, 0))) (.cells #[.int .u8 o, .int .i64 p, .slice B m d, .int .i64 N'] 71 (0, 0))) hy1)
      have K1 : Hid (w1.heap[w.heap.size + 1]? = some (.cells #[.int .u8 o, .int .i64 p, .slice B m d, .int .i64 N'] 71 (0, 0))) := blk_ext (blk_newk _ _ (by simp)) hy1
      have hx1 : Ext w w1 := (((Ext.refl w).alloc _).alloc _).trans hy1
      have k0 := blk_cell K0.out 3; have k1 := blk_cell K1.out 3
      clear hy1
      by_cases hs : same xs ys = true
      · rw [hs]
        have hxy : xs = ys := of_decide_eq_true hs
        have Hxy := Lib.hid hxy; clear hxy hs C
        go_wp2_with fail
        go_ret
        refine ⟨ret_bool ?_, hx1⟩
        by_cases hss : N = N' <;> simp [Hxy.out, hss]
      · have hs' : same xs ys = false := by simpa using hs
        rw [hs']
        have hxy : ¬ xs = ys := fun e => hs (decide_eq_true e)
        have Hxy := Lib.hid hxy; clear hxy hs hs' C
        go_wp2_with fail
        go_ret
        refine ⟨ret_bool ?_, hx1⟩
        simp [Hxy.out]
    · have hpb : (p == p') = false := by simp [hp]
      go_enter Try.func43, Try.ntmps43
      go_wp2_with fail
      go_ret
      exact ⟨ret_bool (by simp [hp]), ((Ext.refl w).alloc _).alloc _⟩
  · have hob : (o == o') = false := by simp [ho]
    go_enter Try.func43, Try.ntmps43
    go_wp2_with fail
    go_ret
    exact ⟨ret_bool (by simp [ho]), ((Ext.refl w).alloc _).alloc _⟩

theorem req_example (w : World) (A : Option Addr) (c : Nat) (hr : Rd w A (vals .u8 [97])) : Calls Try.prog 40 #[callV 1 1 A 1 c 2] w (RetBE [1, 1, 1, 97, 0, 0, 0, 0, 0, 0, 0, 2] 0 w) := by
  have h := req1_ok w 1 2 A 1 c [97] rfl hr (by omega) (by omega) (by omega)
  rw [show (1 :: 1 :: [97].length :: ([97] ++ wordB 2 8)) = [1, 1, 1, 97, 0, 0, 0, 0, 0, 0, 0, 2] by decide] at h
  exact h
theorem begins_example : Begins [1, 1, 1, 97, 0, 0, 0, 0, 0, 0, 0, 2] 1 1 [97] 2 [] := ⟨norm_1 (by omega) (by decide) (by omega) (by decide), by decide, fun h => by omega⟩
theorem reply_example (w : World) : Calls Try.prog 46 #[repV 0 true 2 0 0 100] w (RetBE (repB 0 true [2, 0, 0, 100]) 0 w) := by
  refine (reply_true w 0 2 0 0 100 (by omega)).mono ?_
  rintro e w' ⟨q, B, h, hB⟩
  rcases h with ⟨_, _, hno⟩ | ⟨rfl, _, _, ns, ⟨h1, h2, h3⟩, rfl⟩
  · exact absurd ⟨by omega, by omega, fun x hx => by simp at hx; unfold okN; omega⟩ hno
  · have : ns = [2, 0, 0, 100] := by
      match ns, h1, h2 with
      | [a, b, c, d], _, h2 =>
        simp at h2
        obtain ⟨a1, a2, a3, a4⟩ := h2
        congr <;> omega
    rw [this] at hB
    exact hB
/-- used, told alike for all calls -/
theorem used_cases (o : Nat) (p N : Int) (A : Option Addr) (n c : Nat) (xs : List Nat) (hl : xs.length = n) (p' : Nat) (xs' : List Nat) (N' : Nat) (h1 : 4 < o → p' = 0 ∧ xs' = [] ∧ N' = 0) (h2 : o ≤ 4 → p = (p' : Int) ∧ xs' = xs) (h3 : o = 2 ∨ o = 4 → N' = 0) (h4 : o ≤ 4 → ¬ (o = 2 ∨ o = 4) → N = (N' : Int)) :
    ∃ (A2 : Option Addr) (n2 c2 : Nat), xs'.length = n2 ∧ (∀ w, Rd w A (vals .u8 xs) → Rd w A2 (vals .u8 xs')) ∧ ∀ w, Calls Try.prog 44 #[callV (o : Int) p A n c N] w (RetE (callV (o : Int) (p' : Int) A2 n2 c2 (N' : Int)) w) := by
  by_cases ho : 4 < o
  · obtain ⟨rfl, rfl, rfl⟩ := h1 ho
    exact ⟨none, 0, 0, rfl, fun w _ => Rd.nil _ _, fun w => used_big w o p N A n c (by omega)⟩
  · obtain ⟨rfl, rfl⟩ := h2 (by omega)
    by_cases h24 : o = 2 ∨ o = 4
    · obtain rfl := h3 h24
      exact ⟨A, n, c, hl, fun w h => h, fun w => used_24 w o _ N A n c (by omega)⟩
    · obtain rfl := h4 (by omega) h24
      exact ⟨A, n, c, hl, fun w h => h, fun w => used_13 w o _ _ A n c (by omega) (by omega)⟩
end Go.Proofs.Ytkebkhgjoiiapaa
