/- frame.Reader: its word in memory; take and what is deferred in next. -/
import Derived.Test.YthkdjjfnmlemdaaFrPlain
import Derived.Test.YthkdjjfnmlemdaaBytes
import Derived.Recover
import Derived.Test.YthkdjjfnmlemdaaGb
namespace Go.Proofs.Ythkdjjfnmlemdaa
open Go.RowKit

/-- a reader in memory: the bytes that wait, whether it is closed; all its bytes lie below S -/
def IsRdr (w : World) (r : Nat) (ws : List Nat) (cl : Bool) (S : Nat → Prop) : Prop :=
  ∃ A n c, w.heap[r]? = some (.cells #[.slice A n c, .bool cl] 103 (0, 0)) ∧ ws.length = n ∧ n ≤ c ∧ Rd w A (vals .u8 ws) ∧ ∀ a, A = some a → S a.block

theorem wp_hideQ {P : Program} {c : Code} {Q : Exit → Act → World → Prop} {a : Act} {w : World}
    (h : ∀ Q' : Exit → Act → World → Prop, (∀ e a w, Q e a w → Q' e a w) → c.wp P Q' a w) : c.wp P Q a w := h Q (fun _ _ _ q => q)
set_option maxHeartbeats 1000000 in
theorem take_few (w : World) (r k : Nat) (A : Option Addr) (n c : Nat) (cl : Bool) (h : w.heap[r]? = some (.cells #[.slice A n c, .bool cl] 103 (0, 0))) (hk : n < k) :
    Calls Try.prog 97 #[.pointer (some ⟨r, 0, none⟩), .int .i64 (k : Int)] w fun e w' => e = .panicked [{ v := .iface 143 (.agg #[]), recovered := false }] ∧ w = w' := by
  have h0 : w.cell? ⟨r, 0, none⟩ = some (.slice A n c) := blk_cell h 0
  have H := Lib.hid h; clear h
  go_enter Try.func97, Try.ntmps97
  go_wp2
  exact ⟨rfl, rfl, rfl⟩

set_option maxHeartbeats 1000000 in
theorem take_some (w : World) (r k : Nat) (A A' : Option Addr) (n c m d : Nat) (cl : Bool) (h : w.heap[r]? = some (.cells #[.slice A n c, .bool cl] 103 (0, 0))) (hk : k ≤ n) (hnc : n ≤ c)
    (hsl : ∀ u : World, (Instr.slice 28 (.slice A n c) (some (.int .i64 (k : Int))) none none).run Try.prog u = .ok (.slice A' m d) u) :
    Calls Try.prog 97 #[.pointer (some ⟨r, 0, none⟩), .int .i64 (k : Int)] w fun e w' => e = .returned (.slice A k c) ∧ w.setCell ⟨r, 0, none⟩ (.slice A' m d) = w' := by
  have h0 : w.cell? ⟨r, 0, none⟩ = some (.slice A n c) := blk_cell h 0
  have hf := blk_frozen h 0
  have H := Lib.hid h; clear h
  go_enter Try.func97, Try.ntmps97
  go_wp2
  go_ret
  exact ⟨rfl, rfl⟩


set_option maxRecDepth 100000 in
theorem undo_panicking (w : World) (r br bw : Nat) (A B : Option Addr) (n c m d : Nat) (cl : Bool) (older : List PanicEntry)
    (hr : w.heap[r]? = some (.cells #[.slice A n c, .bool cl] 103 (0, 0))) (h1 : w.cell? ⟨br, 0, none⟩ = some (.pointer (some ⟨r, 0, none⟩))) (h2 : w.cell? ⟨bw, 0, none⟩ = some (.slice B m d)) :
    CallsD Try.prog 96 #[.pointer (some ⟨bw, 0, none⟩), .pointer (some ⟨br, 0, none⟩)] (.panicking ({ v := .iface 143 (.agg #[]), recovered := false } :: older)) w fun e u' w' =>
      e = .returned (.tuple #[]) ∧ u' = .panicking ({ v := .iface 143 (.agg #[]), recovered := true } :: older) ∧ (w.alloc (.cells #[] 143)).setCell ⟨r, 0, none⟩ (.slice B m d) = w' := by
  refine callsD_of_wpS Try.func96 rfl fun c₀ cs hu => ?_
  have hc0 : w.cell? ⟨r, 0, none⟩ = some (.slice A n c) := blk_cell hr 0
  have hf0 := blk_frozen hr 0
  have hta : ∀ u : World, (Instr.typeAssert (.iface 143 (.agg #[])) 20 143 true).run Try.prog u = .ok (.tuple #[.agg #[], .bool true]) u := fun _ => by kernel_rfl
  have p1 := cell_past h1; have p2 := cell_past h2; have p3 := cell_past hc0; have p4 := frozen_past (p := ⟨r, 0, none⟩) (blk_lt hr) hf0
  have Hr := Lib.hid hr; clear hr
  simp only [Try.ntmps96, List.size_toArray, List.length_cons, List.length_nil, Nat.reduceAdd, Nat.reduceSub, Array.replicate_succ, Array.replicate_zero, List.push_toArray, List.append_toArray, List.nil_append, List.cons_append]
  apply wpS_seq
  apply wpS_region
  simp [wpOpsS, go_sem, recoverD, hu, Exit.thenS]
  refine wpS_of_wp ?_
  refine wp_hideQ fun Q hQ => ?_
  have Hu := Lib.hid hu; clear hu
  go_wp2_with fail
  have hu := Hu.out
  exact ⟨rfl, _, rfl, _, results_none rfl _ _ _, rfl, rfl, rfl⟩
theorem undo_idle (w : World) (p q : Value) :
    CallsD Try.prog 96 #[p, q] .returning w fun e u' w' => e = .returned (.tuple #[]) ∧ u' = .returning ∧ w = w' := by
  refine callsD_of_wpS Try.func96 rfl fun c₀ cs hu => ?_
  simp only [Try.ntmps96, List.size_toArray, List.length_cons, List.length_nil, Nat.reduceAdd, Nat.reduceSub, Array.replicate_succ, Array.replicate_zero, List.push_toArray, List.append_toArray, List.nil_append, List.cons_append]
  apply wpS_seq
  apply wpS_region
  simp [wpOpsS, go_sem, recoverD, hu, Exit.thenS]
  refine wpS_of_wp ?_
  refine wp_hideQ fun Q hQ => ?_
  have Hu := Lib.hid hu; clear hu
  go_wp2_with fail
  have hu := Hu.out
  exact ⟨rfl, .returning, by cases c₀; simp at hu; subst hu; rfl, _, results_none rfl _ _ _, rfl, rfl, rfl⟩
end Go.Proofs.Ythkdjjfnmlemdaa
