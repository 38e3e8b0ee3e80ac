/-
  No cell of these rows narrows 'for every input' (looked for: loops, veiled, ifaces, maps, wideKeys, modest, calm, conditions, laid).
  DERIVED. THE GIVEN ROWS OF THIS SEAT. 4 by the template 'for every input the law returns true; each argument reads behind the call as it read before'; 0 by the template 'total and deterministic' (their statements: YtloidkmphigbdaaGreatTotals.lean).
  GIVEN WITH THE SEED: the statements are not yours to turn. If you find one false, say at which input.
  Laid BY PROGRAM, IN A SANDBOX (cutbox-rows.mjs): the forced cells as the released guide's own fill.sh prints them over the translation 97051476688aeda3… (all of the seat's roots in one cut). By AI agents, Wed Nov 11 2026. No macro, syntax, notation, axiom, sorry.
-/
import Derived.Test.YtloidkmphigbdaaGreatChecked
import GoSem.Claim
import GoSem.ClaimJoined
import GoSem.ClaimMapViews
import Derived.JoinedTies
import Derived.KernelRfl
namespace Go.Proofs.YtloidkmphigbdaaGreat
/- THE CELL 'sum', in the pinned program and in every row, IS THE sha256 OF THE DUMP (.gsa) THAT YtloidkmphigbdaaGreatProg.lean LOADS. Nothing in Lean hashes anything: it is a label: what it is worth is what the hold of that sum in a sandbox is worth. -/
noncomputable def Tryz.pinned : Pinned := { name := "ytloidkmphigbdaagreat", sum := "97051476688aeda3c7b2771cff2a45df06102e71ada9ca575ceadb9c8578bedb", checked := Tryz.checked }
namespace Rows
def none {H : Type} : Left H := { results := [], args := [] }

/-- 'spigottop.TopClock': WHATEVER THE INPUT: true; the input reads as it did. -/
def topClockSpec : ChangeSpec := { name := "topClock", fn := fun _ => fun
  | [d1, d2] => { results := [.lit (.bool true)], args := [d1, d2] }
  | _ => none }
def topClockRow : OpenClaim := { program := "ytloidkmphigbdaagreat", sum := "97051476688aeda3c7b2771cff2a45df06102e71ada9ca575ceadb9c8578bedb", func := "spigot/spigottop.TopClock", spec := "topClock", inPlace := ["internal/bytealg.Compare", "slices.overlaps[spigot/api.Cell]", "slices.overlaps[int64]"], unfollowed := true, recurses := true, apart := false }
def TopClockSaid : Prop := topClockRow.holds Tryz.pinned (OpenSpec.ofChange topClockSpec)

/-- ITS FALSE NEIGHBOUR: 'it returns false'. Refute it at one input. -/
def topClockWrong : ChangeSpec := { name := "topClock", fn := fun _ => fun
  | [d1, d2] => { results := [.lit (.bool false)], args := [d1, d2] }
  | _ => none }
def TopClockWrongFalsely : Prop := topClockRow.holds Tryz.pinned (OpenSpec.ofChange topClockWrong)

/-- 'spigottop.TopBroken': WHATEVER THE INPUT: true; the input reads as it did. -/
def topBrokenSpec : ChangeSpec := { name := "topBroken", fn := fun _ => fun
  | [d1, d2, d3] => { results := [.lit (.bool true)], args := [d1, d2, d3] }
  | _ => none }
def topBrokenRow : OpenClaim := { program := "ytloidkmphigbdaagreat", sum := "97051476688aeda3c7b2771cff2a45df06102e71ada9ca575ceadb9c8578bedb", func := "spigot/spigottop.TopBroken", spec := "topBroken", inPlace := ["internal/bytealg.Compare", "slices.overlaps[spigot/api.Cell]", "slices.overlaps[int64]"], unfollowed := true, recurses := true, apart := false }
def TopBrokenSaid : Prop := topBrokenRow.holds Tryz.pinned (OpenSpec.ofChange topBrokenSpec)

/-- ITS FALSE NEIGHBOUR: 'it returns false'. Refute it at one input. -/
def topBrokenWrong : ChangeSpec := { name := "topBroken", fn := fun _ => fun
  | [d1, d2, d3] => { results := [.lit (.bool false)], args := [d1, d2, d3] }
  | _ => none }
def TopBrokenWrongFalsely : Prop := topBrokenRow.holds Tryz.pinned (OpenSpec.ofChange topBrokenWrong)

/-- 'spigottop.TopServed': WHATEVER THE INPUT: true; the input reads as it did. -/
def topServedSpec : ChangeSpec := { name := "topServed", fn := fun _ => fun
  | [d1, d2, d3] => { results := [.lit (.bool true)], args := [d1, d2, d3] }
  | _ => none }
def topServedRow : OpenClaim := { program := "ytloidkmphigbdaagreat", sum := "97051476688aeda3c7b2771cff2a45df06102e71ada9ca575ceadb9c8578bedb", func := "spigot/spigottop.TopServed", spec := "topServed", inPlace := ["internal/bytealg.Compare", "slices.overlaps[spigot/api.Cell]", "slices.overlaps[int64]"], unfollowed := true, recurses := true, apart := false }
def TopServedSaid : Prop := topServedRow.holds Tryz.pinned (OpenSpec.ofChange topServedSpec)

/-- ITS FALSE NEIGHBOUR: 'it returns false'. Refute it at one input. -/
def topServedWrong : ChangeSpec := { name := "topServed", fn := fun _ => fun
  | [d1, d2, d3] => { results := [.lit (.bool false)], args := [d1, d2, d3] }
  | _ => none }
def TopServedWrongFalsely : Prop := topServedRow.holds Tryz.pinned (OpenSpec.ofChange topServedWrong)

/-- 'spigottop.TopGivenBack': WHATEVER THE INPUT: true; the input reads as it did. -/
def topGivenBackSpec : ChangeSpec := { name := "topGivenBack", fn := fun _ => fun
  | [d1, d2, d3] => { results := [.lit (.bool true)], args := [d1, d2, d3] }
  | _ => none }
def topGivenBackRow : OpenClaim := { program := "ytloidkmphigbdaagreat", sum := "97051476688aeda3c7b2771cff2a45df06102e71ada9ca575ceadb9c8578bedb", func := "spigot/spigottop.TopGivenBack", spec := "topGivenBack", inPlace := ["internal/bytealg.Compare", "slices.overlaps[spigot/api.Cell]", "slices.overlaps[int64]"], unfollowed := true, recurses := true, apart := false }
def TopGivenBackSaid : Prop := topGivenBackRow.holds Tryz.pinned (OpenSpec.ofChange topGivenBackSpec)

/-- ITS FALSE NEIGHBOUR: 'it returns false'. Refute it at one input. -/
def topGivenBackWrong : ChangeSpec := { name := "topGivenBack", fn := fun _ => fun
  | [d1, d2, d3] => { results := [.lit (.bool false)], args := [d1, d2, d3] }
  | _ => none }
def TopGivenBackWrongFalsely : Prop := topGivenBackRow.holds Tryz.pinned (OpenSpec.ofChange topGivenBackWrong)

/- THE SECOND FORM. 'bulk': how many values and letters a reading holds, each counted each time it is reached (what is shared counts as often as it is met; a slice's spare places count too). A statement '..UptoSaid' is the law's where the arguments, and the package variables that the reading takes, are together of bulk at most 1048576: NARROWER than '..Said'. Prove '..Said' where nothing that the law and all that it calls make is longer than what came in: it says more and counts as full. Else prove '..UptoSaid'. A law counts once. -/
mutual
def uptoBulk {H : Type} : DataW H → Nat
  | .lit (.string bytes) => bytes.length + 1
  | .lit _ => 1
  | .nil => 1
  | .ptr d => uptoBulk d + 1
  | .slice elems spare => uptoBulkAll elems + uptoBulkAll spare + 1
  | .agg parts => uptoBulkAll parts + 1
  | .iface _ d => uptoBulk d + 1
  | .map entries => uptoBulkEntries entries + 1
  | .held _ => 1
def uptoBulkAll {H : Type} : List (DataW H) → Nat
  | [] => 0
  | d :: r => uptoBulk d + uptoBulkAll r
def uptoBulkEntries {H : Type} : List (Lit × DataW H) → Nat
  | [] => 0
  | x :: r => uptoBulkEntry x + uptoBulkEntries r
def uptoBulkEntry {H : Type} : Lit × DataW H → Nat
  | (.string bytes, d) => bytes.length + uptoBulk d + 1
  | (_, d) => uptoBulk d + 1
 end
def uptoSmall : (H : Type) → List (DataW H) → Bool := fun _ ds => decide (uptoBulkAll ds ≤ 1048576)
def OpenSpec.upto (s : _root_.Go.ChangeSpec) : _root_.Go.OpenSpec := { _root_.Go.OpenSpec.ofChange s with cond := some uptoSmall }

/-- 'spigottop.TopClock', WHERE WHAT IT READS IS OF BULK AT MOST 1048576: true; the input reads as it did. -/
def topClockUptoRow : OpenClaim := { program := "ytloidkmphigbdaagreat", sum := "97051476688aeda3c7b2771cff2a45df06102e71ada9ca575ceadb9c8578bedb", func := "spigot/spigottop.TopClock", spec := "topClock", inPlace := ["internal/bytealg.Compare", "slices.overlaps[spigot/api.Cell]", "slices.overlaps[int64]"], unfollowed := true, recurses := true, apart := false, narrowed := true }
def TopClockUptoSaid : Prop := topClockUptoRow.holds Tryz.pinned (OpenSpec.upto topClockSpec)

/-- 'spigottop.TopBroken', WHERE WHAT IT READS IS OF BULK AT MOST 1048576: true; the input reads as it did. -/
def topBrokenUptoRow : OpenClaim := { program := "ytloidkmphigbdaagreat", sum := "97051476688aeda3c7b2771cff2a45df06102e71ada9ca575ceadb9c8578bedb", func := "spigot/spigottop.TopBroken", spec := "topBroken", inPlace := ["internal/bytealg.Compare", "slices.overlaps[spigot/api.Cell]", "slices.overlaps[int64]"], unfollowed := true, recurses := true, apart := false, narrowed := true }
def TopBrokenUptoSaid : Prop := topBrokenUptoRow.holds Tryz.pinned (OpenSpec.upto topBrokenSpec)

/-- 'spigottop.TopServed', WHERE WHAT IT READS IS OF BULK AT MOST 1048576: true; the input reads as it did. -/
def topServedUptoRow : OpenClaim := { program := "ytloidkmphigbdaagreat", sum := "97051476688aeda3c7b2771cff2a45df06102e71ada9ca575ceadb9c8578bedb", func := "spigot/spigottop.TopServed", spec := "topServed", inPlace := ["internal/bytealg.Compare", "slices.overlaps[spigot/api.Cell]", "slices.overlaps[int64]"], unfollowed := true, recurses := true, apart := false, narrowed := true }
def TopServedUptoSaid : Prop := topServedUptoRow.holds Tryz.pinned (OpenSpec.upto topServedSpec)

/-- 'spigottop.TopGivenBack', WHERE WHAT IT READS IS OF BULK AT MOST 1048576: true; the input reads as it did. -/
def topGivenBackUptoRow : OpenClaim := { program := "ytloidkmphigbdaagreat", sum := "97051476688aeda3c7b2771cff2a45df06102e71ada9ca575ceadb9c8578bedb", func := "spigot/spigottop.TopGivenBack", spec := "topGivenBack", inPlace := ["internal/bytealg.Compare", "slices.overlaps[spigot/api.Cell]", "slices.overlaps[int64]"], unfollowed := true, recurses := true, apart := false, narrowed := true }
def TopGivenBackUptoSaid : Prop := topGivenBackUptoRow.holds Tryz.pinned (OpenSpec.upto topGivenBackSpec)

end Rows
end Go.Proofs.YtloidkmphigbdaaGreat
