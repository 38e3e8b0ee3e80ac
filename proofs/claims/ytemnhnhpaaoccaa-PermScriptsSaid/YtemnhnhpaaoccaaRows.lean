/-
  No cell of these rows narrows 'for every input' (looked for: loops, veiled, ifaces, maps, wideKeys, modest, calm, conditions, laid).
  DERIVED. THE GIVEN ROWS OF THIS SEAT. 4 by the template 'for every input the law returns true; each argument reads behind the call as it read before'; 0 by the template 'total and deterministic' (their statements: YtemnhnhpaaoccaaTotals.lean).
  GIVEN WITH THE SEED: the statements are not yours to turn. If you find one false, say at which input.
  Laid BY PROGRAM, IN A SANDBOX (cutbox-rows.mjs): the forced cells as the released guide's own fill.sh prints them over the translation d306b6a5220fda1e… (all of the seat's roots in one cut). By AI agents, Wed Nov 11 2026. No macro, syntax, notation, axiom, sorry.
-/
import Derived.Test.YtemnhnhpaaoccaaChecked
import GoSem.Claim
import GoSem.ClaimJoined
import GoSem.ClaimMapViews
import Derived.JoinedTies
import Derived.KernelRfl
namespace Go.Proofs.Ytemnhnhpaaoccaa
/- THE CELL 'sum', in the pinned program and in every row, IS THE sha256 OF THE DUMP (.gsa) THAT YtemnhnhpaaoccaaProg.lean LOADS. Nothing in Lean hashes anything: it is a label: what it is worth is what the hold of that sum in a sandbox is worth. -/
noncomputable def Try.pinned : Pinned := { name := "ytemnhnhpaaoccaa", sum := "d306b6a5220fda1ee17522747587d195df4af1f81b726ab6bebe2d8183e84e77", checked := Try.checked }
namespace Rows
def none {H : Type} : Left H := { results := [], args := [] }

/-- 'spigotlaw06.PermBack': WHATEVER THE INPUT: true; the input reads as it did. -/
def permBackSpec : ChangeSpec := { name := "permBack", fn := fun _ => fun
  | [d1, d2, d3] => { results := [.lit (.bool true)], args := [d1, d2, d3] }
  | _ => none }
def permBackRow : OpenClaim := { program := "ytemnhnhpaaoccaa", sum := "d306b6a5220fda1ee17522747587d195df4af1f81b726ab6bebe2d8183e84e77", func := "spigot/spigotlaw06.PermBack", spec := "permBack", inPlace := ["slices.overlaps[int64]"], apart := false }
def PermBackSaid : Prop := permBackRow.holds Try.pinned (OpenSpec.ofChange permBackSpec)

/-- ITS FALSE NEIGHBOUR: 'it returns false'. Refute it at one input. -/
def permBackWrong : ChangeSpec := { name := "permBack", fn := fun _ => fun
  | [d1, d2, d3] => { results := [.lit (.bool false)], args := [d1, d2, d3] }
  | _ => none }
def PermBackWrongFalsely : Prop := permBackRow.holds Try.pinned (OpenSpec.ofChange permBackWrong)

/-- 'spigotlaw06.PermTakes': WHATEVER THE INPUT: true; the input reads as it did. -/
def permTakesSpec : ChangeSpec := { name := "permTakes", fn := fun _ => fun
  | [d1, d2, d3] => { results := [.lit (.bool true)], args := [d1, d2, d3] }
  | _ => none }
def permTakesRow : OpenClaim := { program := "ytemnhnhpaaoccaa", sum := "d306b6a5220fda1ee17522747587d195df4af1f81b726ab6bebe2d8183e84e77", func := "spigot/spigotlaw06.PermTakes", spec := "permTakes", inPlace := ["slices.overlaps[int64]"], apart := false }
def PermTakesSaid : Prop := permTakesRow.holds Try.pinned (OpenSpec.ofChange permTakesSpec)

/-- ITS FALSE NEIGHBOUR: 'it returns false'. Refute it at one input. -/
def permTakesWrong : ChangeSpec := { name := "permTakes", fn := fun _ => fun
  | [d1, d2, d3] => { results := [.lit (.bool false)], args := [d1, d2, d3] }
  | _ => none }
def PermTakesWrongFalsely : Prop := permTakesRow.holds Try.pinned (OpenSpec.ofChange permTakesWrong)

/-- 'spigotlaw06.PermGives': WHATEVER THE INPUT: true; the input reads as it did. -/
def permGivesSpec : ChangeSpec := { name := "permGives", fn := fun _ => fun
  | [d1, d2] => { results := [.lit (.bool true)], args := [d1, d2] }
  | _ => none }
def permGivesRow : OpenClaim := { program := "ytemnhnhpaaoccaa", sum := "d306b6a5220fda1ee17522747587d195df4af1f81b726ab6bebe2d8183e84e77", func := "spigot/spigotlaw06.PermGives", spec := "permGives", inPlace := ["slices.overlaps[int64]"], apart := false }
def PermGivesSaid : Prop := permGivesRow.holds Try.pinned (OpenSpec.ofChange permGivesSpec)

/-- ITS FALSE NEIGHBOUR: 'it returns false'. Refute it at one input. -/
def permGivesWrong : ChangeSpec := { name := "permGives", fn := fun _ => fun
  | [d1, d2] => { results := [.lit (.bool false)], args := [d1, d2] }
  | _ => none }
def PermGivesWrongFalsely : Prop := permGivesRow.holds Try.pinned (OpenSpec.ofChange permGivesWrong)

/-- 'spigotlaw06.PermScripts': WHATEVER THE INPUT: true; the input reads as it did. -/
def permScriptsSpec : ChangeSpec := { name := "permScripts", fn := fun _ => fun
  | [d1, d2] => { results := [.lit (.bool true)], args := [d1, d2] }
  | _ => none }
def permScriptsRow : OpenClaim := { program := "ytemnhnhpaaoccaa", sum := "d306b6a5220fda1ee17522747587d195df4af1f81b726ab6bebe2d8183e84e77", func := "spigot/spigotlaw06.PermScripts", spec := "permScripts", inPlace := ["slices.overlaps[int64]"], apart := false }
def PermScriptsSaid : Prop := permScriptsRow.holds Try.pinned (OpenSpec.ofChange permScriptsSpec)

/-- ITS FALSE NEIGHBOUR: 'it returns false'. Refute it at one input. -/
def permScriptsWrong : ChangeSpec := { name := "permScripts", fn := fun _ => fun
  | [d1, d2] => { results := [.lit (.bool false)], args := [d1, d2] }
  | _ => none }
def PermScriptsWrongFalsely : Prop := permScriptsRow.holds Try.pinned (OpenSpec.ofChange permScriptsWrong)

/- THE SECOND FORM. 'bulk': how many values and letters a reading holds, each counted each time it is reached (what is shared counts as often as it is met; a slice's spare places count too). A statement '..UptoSaid' is the law's where the arguments, and the package variables that the reading takes, are together of bulk at most 1048576: NARROWER than '..Said'. Prove '..Said' where nothing that the law and all that it calls make is longer than what came in: it says more and counts as full. Else prove '..UptoSaid'. A law counts once. -/
mutual
def uptoBulk {H : Type} : DataW H → Nat
  | .lit (.string bytes) => bytes.length + 1
  | .lit _ => 1
  | .nil => 1
  | .ptr d => uptoBulk d + 1
  | .slice elems spare => uptoBulkAll elems + uptoBulkAll spare + 1
  | .agg parts => uptoBulkAll parts + 1
  | .iface _ d => uptoBulk d + 1
  | .map entries => uptoBulkEntries entries + 1
  | .held _ => 1
def uptoBulkAll {H : Type} : List (DataW H) → Nat
  | [] => 0
  | d :: r => uptoBulk d + uptoBulkAll r
def uptoBulkEntries {H : Type} : List (Lit × DataW H) → Nat
  | [] => 0
  | x :: r => uptoBulkEntry x + uptoBulkEntries r
def uptoBulkEntry {H : Type} : Lit × DataW H → Nat
  | (.string bytes, d) => bytes.length + uptoBulk d + 1
  | (_, d) => uptoBulk d + 1
 end
def uptoSmall : (H : Type) → List (DataW H) → Bool := fun _ ds => decide (uptoBulkAll ds ≤ 1048576)
def OpenSpec.upto (s : _root_.Go.ChangeSpec) : _root_.Go.OpenSpec := { _root_.Go.OpenSpec.ofChange s with cond := some uptoSmall }

/-- 'spigotlaw06.PermBack', WHERE WHAT IT READS IS OF BULK AT MOST 1048576: true; the input reads as it did. -/
def permBackUptoRow : OpenClaim := { program := "ytemnhnhpaaoccaa", sum := "d306b6a5220fda1ee17522747587d195df4af1f81b726ab6bebe2d8183e84e77", func := "spigot/spigotlaw06.PermBack", spec := "permBack", inPlace := ["slices.overlaps[int64]"], apart := false, narrowed := true }
def PermBackUptoSaid : Prop := permBackUptoRow.holds Try.pinned (OpenSpec.upto permBackSpec)

/-- 'spigotlaw06.PermTakes', WHERE WHAT IT READS IS OF BULK AT MOST 1048576: true; the input reads as it did. -/
def permTakesUptoRow : OpenClaim := { program := "ytemnhnhpaaoccaa", sum := "d306b6a5220fda1ee17522747587d195df4af1f81b726ab6bebe2d8183e84e77", func := "spigot/spigotlaw06.PermTakes", spec := "permTakes", inPlace := ["slices.overlaps[int64]"], apart := false, narrowed := true }
def PermTakesUptoSaid : Prop := permTakesUptoRow.holds Try.pinned (OpenSpec.upto permTakesSpec)

/-- 'spigotlaw06.PermGives', WHERE WHAT IT READS IS OF BULK AT MOST 1048576: true; the input reads as it did. -/
def permGivesUptoRow : OpenClaim := { program := "ytemnhnhpaaoccaa", sum := "d306b6a5220fda1ee17522747587d195df4af1f81b726ab6bebe2d8183e84e77", func := "spigot/spigotlaw06.PermGives", spec := "permGives", inPlace := ["slices.overlaps[int64]"], apart := false, narrowed := true }
def PermGivesUptoSaid : Prop := permGivesUptoRow.holds Try.pinned (OpenSpec.upto permGivesSpec)

/-- 'spigotlaw06.PermScripts', WHERE WHAT IT READS IS OF BULK AT MOST 1048576: true; the input reads as it did. -/
def permScriptsUptoRow : OpenClaim := { program := "ytemnhnhpaaoccaa", sum := "d306b6a5220fda1ee17522747587d195df4af1f81b726ab6bebe2d8183e84e77", func := "spigot/spigotlaw06.PermScripts", spec := "permScripts", inPlace := ["slices.overlaps[int64]"], apart := false, narrowed := true }
def PermScriptsUptoSaid : Prop := permScriptsUptoRow.holds Try.pinned (OpenSpec.upto permScriptsSpec)

end Rows
end Go.Proofs.Ytemnhnhpaaoccaa
