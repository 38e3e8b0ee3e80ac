/- What a function leaves that answers bytes and an error. -/
import Derived.Test.YthkdjjfnmlemdaaBytes
namespace Go.Proofs.Ythkdjjfnmlemdaa
open Go.RowKit
def RetBE (xs : List Nat) (er : Int) (w : World) (e : Ending) (w' : World) : Prop :=
  ∃ A c, e = .returned (.tuple #[.slice A xs.length c, .int .i64 er]) ∧ w'.ownsRow w.heap.size 5 1 (.slice A xs.length c) xs.length (vals .u8 xs) ∧ Ext w w'
theorem retBE_of {n c : Nat} {xs : List Nat} {er : Int} (hl : xs.length = n) {w w' : World} {A : Option Addr} (ho : w'.ownsRow w.heap.size 5 1 (.slice A n c) n (vals .u8 xs)) (hb : Ext w w') :
    RetBE xs er w (.returned (.tuple #[.slice A n c, .int .i64 er])) w' := by
  subst hl
  exact ⟨A, c, rfl, ho, hb⟩
end Go.Proofs.Ythkdjjfnmlemdaa
