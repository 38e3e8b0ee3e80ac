/- hash.Ident. -/
import Derived.Test.YthkdjjfnmlemdaaRet
namespace Go.Proofs.Ythkdjjfnmlemdaa
open Go.RowKit

theorem own1 (w : World) (x : Nat) : (w.alloc (.cells #[.int .u8 (x : Int)] 5)).ownsRow w.heap.size 5 1 (.slice (some ⟨w.heap.size, 0, none⟩) 1 1) 1 (vals .u8 [x]) := own_made w [.int .u8 (x : Int)] 5 1 1 rfl (by unfold maxLen; omega) (Nat.le_refl _)

set_option maxHeartbeats 400000 in
theorem ident_ok (p : Nat) (A : Option Addr) (n c : Nat) (xs : List Nat) (w : World) (hp : p < 32) (hl : xs.length = n) (hn : n ≤ 255) (hr : Rd w A (vals .u8 xs)) :
    Calls Try.prog 65 #[.int .i64 (p : Int), .slice A n c] w (RetBE (p :: xs) 0 w) := by
  have Hl := Lib.hid hl; clear hl
  have Hr := Lib.hid hr; clear hr
  go_enter Try.func65, Try.ntmps65
  go_wp2_with (at_builtin; refine app_u8 _ rfl (.tmp 19) (.tmp 20) rfl w.heap.size rfl (own1 w p) rfl Hl.out (Hr.out.alloc _) (by omega) (by simp) ?_; intro A' c' w1 hown hgrow _)
  go_ret2
  exact retBE_of (by rw [List.length_cons, Hl.out, Nat.add_comm]) hown (((Ext.refl w).alloc _).grown hgrow (by simp [Value.ownBlock]))
theorem ident_arg (p : Int) (A : Option Addr) (n c : Nat) (w : World) (hp : p < 0 ∨ 32 ≤ p) :
    Calls Try.prog 65 #[.int .i64 p, .slice A n c] w fun e w' => e = .returned (.tuple #[.slice none 0 0, .int .i64 1]) ∧ w = w' := by
  rcases hp with h | h
  · go_enter Try.func65, Try.ntmps65
    go_wp2
    go_ret2
    exact ⟨rfl, rfl⟩
  · have h' : ¬ p < 0 := by omega
    go_enter Try.func65, Try.ntmps65
    go_wp2
    go_ret2
    exact ⟨rfl, rfl⟩
theorem ident_long (p : Int) (A : Option Addr) (n c : Nat) (w : World) (hp : 0 ≤ p) (hp' : p < 32) (hn : 255 < n) :
    Calls Try.prog 65 #[.int .i64 p, .slice A n c] w fun e w' => e = .returned (.tuple #[.slice none 0 0, .int .i64 2]) ∧ w = w' := by
  go_enter Try.func65, Try.ntmps65
  go_wp2
  go_ret2
  exact ⟨rfl, rfl⟩

end Go.Proofs.Ythkdjjfnmlemdaa
