/-
  No cell of these rows narrows 'for every input' (looked for: loops, veiled, ifaces, maps, wideKeys, modest, calm, conditions, laid).
  DERIVED. THE GIVEN ROWS OF THIS SEAT. 7 by the template 'for every input the law returns true; each argument reads behind the call as it read before'; 0 by the template 'total and deterministic' (their statements: YtlfccmipfijjbaaTotals.lean).
  GIVEN WITH THE SEED: the statements are not yours to turn. If you find one false, say at which input.
  Laid BY PROGRAM, IN A SANDBOX (cutbox-rows.mjs): the forced cells as the released guide's own fill.sh prints them over the translation d87ea90f32a7f442… (all of the seat's roots in one cut). By AI agents, Wed Nov 11 2026. No macro, syntax, notation, axiom, sorry.
-/
import Derived.Test.YtlfccmipfijjbaaChecked
import GoSem.Claim
import GoSem.ClaimJoined
import GoSem.ClaimMapViews
import Derived.JoinedTies
import Derived.KernelRfl
namespace Go.Proofs.Ytlfccmipfijjbaa
/- THE CELL 'sum', in the pinned program and in every row, IS THE sha256 OF THE DUMP (.gsa) THAT YtlfccmipfijjbaaProg.lean LOADS. Nothing in Lean hashes anything: it is a label: what it is worth is what the hold of that sum in a sandbox is worth. -/
noncomputable def Try.pinned : Pinned := { name := "ytlfccmipfijjbaa", sum := "d87ea90f32a7f44224c226e0cddae4fcda095e50167dc166b4b0d343d9a7e786", checked := Try.checked }
namespace Rows
def none {H : Type} : Left H := { results := [], args := [] }

/-- 'spigotlaw02.HashSums': WHATEVER THE INPUT: true; the input reads as it did. -/
def hashSumsSpec : ChangeSpec := { name := "hashSums", fn := fun _ => fun
  | [d1, d2] => { results := [.lit (.bool true)], args := [d1, d2] }
  | _ => none }
def hashSumsRow : OpenClaim := { program := "ytlfccmipfijjbaa", sum := "d87ea90f32a7f44224c226e0cddae4fcda095e50167dc166b4b0d343d9a7e786", func := "spigot/spigotlaw02.HashSums", spec := "hashSums", inPlace := ["internal/bytealg.Compare"], apart := false }
def HashSumsSaid : Prop := hashSumsRow.holds Try.pinned (OpenSpec.ofChange hashSumsSpec)

/-- ITS FALSE NEIGHBOUR: 'it returns false'. Refute it at one input. -/
def hashSumsWrong : ChangeSpec := { name := "hashSums", fn := fun _ => fun
  | [d1, d2] => { results := [.lit (.bool false)], args := [d1, d2] }
  | _ => none }
def HashSumsWrongFalsely : Prop := hashSumsRow.holds Try.pinned (OpenSpec.ofChange hashSumsWrong)

/-- 'spigotlaw02.HashShards': WHATEVER THE INPUT: true; the input reads as it did. -/
def hashShardsSpec : ChangeSpec := { name := "hashShards", fn := fun _ => fun
  | [d1, d2] => { results := [.lit (.bool true)], args := [d1, d2] }
  | _ => none }
def hashShardsRow : OpenClaim := { program := "ytlfccmipfijjbaa", sum := "d87ea90f32a7f44224c226e0cddae4fcda095e50167dc166b4b0d343d9a7e786", func := "spigot/spigotlaw02.HashShards", spec := "hashShards", inPlace := ["internal/bytealg.Compare"], apart := false }
def HashShardsSaid : Prop := hashShardsRow.holds Try.pinned (OpenSpec.ofChange hashShardsSpec)

/-- ITS FALSE NEIGHBOUR: 'it returns false'. Refute it at one input. -/
def hashShardsWrong : ChangeSpec := { name := "hashShards", fn := fun _ => fun
  | [d1, d2] => { results := [.lit (.bool false)], args := [d1, d2] }
  | _ => none }
def HashShardsWrongFalsely : Prop := hashShardsRow.holds Try.pinned (OpenSpec.ofChange hashShardsWrong)

/-- 'spigotlaw02.HashOrders': WHATEVER THE INPUT: true; the input reads as it did. -/
def hashOrdersSpec : ChangeSpec := { name := "hashOrders", fn := fun _ => fun
  | [d1, d2, d3] => { results := [.lit (.bool true)], args := [d1, d2, d3] }
  | _ => none }
def hashOrdersRow : OpenClaim := { program := "ytlfccmipfijjbaa", sum := "d87ea90f32a7f44224c226e0cddae4fcda095e50167dc166b4b0d343d9a7e786", func := "spigot/spigotlaw02.HashOrders", spec := "hashOrders", inPlace := ["internal/bytealg.Compare"], apart := false }
def HashOrdersSaid : Prop := hashOrdersRow.holds Try.pinned (OpenSpec.ofChange hashOrdersSpec)

/-- ITS FALSE NEIGHBOUR: 'it returns false'. Refute it at one input. -/
def hashOrdersWrong : ChangeSpec := { name := "hashOrders", fn := fun _ => fun
  | [d1, d2, d3] => { results := [.lit (.bool false)], args := [d1, d2, d3] }
  | _ => none }
def HashOrdersWrongFalsely : Prop := hashOrdersRow.holds Try.pinned (OpenSpec.ofChange hashOrdersWrong)

/-- 'spigotlaw02.HashPieces': WHATEVER THE INPUT: true; the input reads as it did. -/
def hashPiecesSpec : ChangeSpec := { name := "hashPieces", fn := fun _ => fun
  | [d1, d2, d3] => { results := [.lit (.bool true)], args := [d1, d2, d3] }
  | _ => none }
def hashPiecesRow : OpenClaim := { program := "ytlfccmipfijjbaa", sum := "d87ea90f32a7f44224c226e0cddae4fcda095e50167dc166b4b0d343d9a7e786", func := "spigot/spigotlaw02.HashPieces", spec := "hashPieces", inPlace := ["internal/bytealg.Compare"], apart := false }
def HashPiecesSaid : Prop := hashPiecesRow.holds Try.pinned (OpenSpec.ofChange hashPiecesSpec)

/-- ITS FALSE NEIGHBOUR: 'it returns false'. Refute it at one input. -/
def hashPiecesWrong : ChangeSpec := { name := "hashPieces", fn := fun _ => fun
  | [d1, d2, d3] => { results := [.lit (.bool false)], args := [d1, d2, d3] }
  | _ => none }
def HashPiecesWrongFalsely : Prop := hashPiecesRow.holds Try.pinned (OpenSpec.ofChange hashPiecesWrong)

/-- 'spigotlaw02.HashHalves': WHATEVER THE INPUT: true; the input reads as it did. -/
def hashHalvesSpec : ChangeSpec := { name := "hashHalves", fn := fun _ => fun
  | [d] => { results := [.lit (.bool true)], args := [d] }
  | _ => none }
def hashHalvesRow : OpenClaim := { program := "ytlfccmipfijjbaa", sum := "d87ea90f32a7f44224c226e0cddae4fcda095e50167dc166b4b0d343d9a7e786", func := "spigot/spigotlaw02.HashHalves", spec := "hashHalves", inPlace := ["internal/bytealg.Compare"], apart := false }
def HashHalvesSaid : Prop := hashHalvesRow.holds Try.pinned (OpenSpec.ofChange hashHalvesSpec)

/-- ITS FALSE NEIGHBOUR: 'it returns false'. Refute it at one input. -/
def hashHalvesWrong : ChangeSpec := { name := "hashHalves", fn := fun _ => fun
  | [d] => { results := [.lit (.bool false)], args := [d] }
  | _ => none }
def HashHalvesWrongFalsely : Prop := hashHalvesRow.holds Try.pinned (OpenSpec.ofChange hashHalvesWrong)

/-- 'spigotlaw02.HashIdents': WHATEVER THE INPUT: true; the input reads as it did. -/
def hashIdentsSpec : ChangeSpec := { name := "hashIdents", fn := fun _ => fun
  | [d1, d2, d3] => { results := [.lit (.bool true)], args := [d1, d2, d3] }
  | _ => none }
def hashIdentsRow : OpenClaim := { program := "ytlfccmipfijjbaa", sum := "d87ea90f32a7f44224c226e0cddae4fcda095e50167dc166b4b0d343d9a7e786", func := "spigot/spigotlaw02.HashIdents", spec := "hashIdents", inPlace := ["internal/bytealg.Compare"], apart := false }
def HashIdentsSaid : Prop := hashIdentsRow.holds Try.pinned (OpenSpec.ofChange hashIdentsSpec)

/-- ITS FALSE NEIGHBOUR: 'it returns false'. Refute it at one input. -/
def hashIdentsWrong : ChangeSpec := { name := "hashIdents", fn := fun _ => fun
  | [d1, d2, d3] => { results := [.lit (.bool false)], args := [d1, d2, d3] }
  | _ => none }
def HashIdentsWrongFalsely : Prop := hashIdentsRow.holds Try.pinned (OpenSpec.ofChange hashIdentsWrong)

/-- 'spigotlaw02.HashKeeps': WHATEVER THE INPUT: true; the input reads as it did. -/
def hashKeepsSpec : ChangeSpec := { name := "hashKeeps", fn := fun _ => fun
  | [d] => { results := [.lit (.bool true)], args := [d] }
  | _ => none }
def hashKeepsRow : OpenClaim := { program := "ytlfccmipfijjbaa", sum := "d87ea90f32a7f44224c226e0cddae4fcda095e50167dc166b4b0d343d9a7e786", func := "spigot/spigotlaw02.HashKeeps", spec := "hashKeeps", inPlace := ["internal/bytealg.Compare"], apart := false }
def HashKeepsSaid : Prop := hashKeepsRow.holds Try.pinned (OpenSpec.ofChange hashKeepsSpec)

/-- ITS FALSE NEIGHBOUR: 'it returns false'. Refute it at one input. -/
def hashKeepsWrong : ChangeSpec := { name := "hashKeeps", fn := fun _ => fun
  | [d] => { results := [.lit (.bool false)], args := [d] }
  | _ => none }
def HashKeepsWrongFalsely : Prop := hashKeepsRow.holds Try.pinned (OpenSpec.ofChange hashKeepsWrong)

/- THE SECOND FORM. 'bulk': how many values and letters a reading holds, each counted each time it is reached (what is shared counts as often as it is met; a slice's spare places count too). A statement '..UptoSaid' is the law's where the arguments, and the package variables that the reading takes, are together of bulk at most 1048576: NARROWER than '..Said'. Prove '..Said' where nothing that the law and all that it calls make is longer than what came in: it says more and counts as full. Else prove '..UptoSaid'. A law counts once. -/
mutual
def uptoBulk {H : Type} : DataW H → Nat
  | .lit (.string bytes) => bytes.length + 1
  | .lit _ => 1
  | .nil => 1
  | .ptr d => uptoBulk d + 1
  | .slice elems spare => uptoBulkAll elems + uptoBulkAll spare + 1
  | .agg parts => uptoBulkAll parts + 1
  | .iface _ d => uptoBulk d + 1
  | .map entries => uptoBulkEntries entries + 1
  | .held _ => 1
def uptoBulkAll {H : Type} : List (DataW H) → Nat
  | [] => 0
  | d :: r => uptoBulk d + uptoBulkAll r
def uptoBulkEntries {H : Type} : List (Lit × DataW H) → Nat
  | [] => 0
  | x :: r => uptoBulkEntry x + uptoBulkEntries r
def uptoBulkEntry {H : Type} : Lit × DataW H → Nat
  | (.string bytes, d) => bytes.length + uptoBulk d + 1
  | (_, d) => uptoBulk d + 1
 end
def uptoSmall : (H : Type) → List (DataW H) → Bool := fun _ ds => decide (uptoBulkAll ds ≤ 1048576)
def OpenSpec.upto (s : _root_.Go.ChangeSpec) : _root_.Go.OpenSpec := { _root_.Go.OpenSpec.ofChange s with cond := some uptoSmall }

/-- 'spigotlaw02.HashSums', WHERE WHAT IT READS IS OF BULK AT MOST 1048576: true; the input reads as it did. -/
def hashSumsUptoRow : OpenClaim := { program := "ytlfccmipfijjbaa", sum := "d87ea90f32a7f44224c226e0cddae4fcda095e50167dc166b4b0d343d9a7e786", func := "spigot/spigotlaw02.HashSums", spec := "hashSums", inPlace := ["internal/bytealg.Compare"], apart := false, narrowed := true }
def HashSumsUptoSaid : Prop := hashSumsUptoRow.holds Try.pinned (OpenSpec.upto hashSumsSpec)

/-- 'spigotlaw02.HashShards', WHERE WHAT IT READS IS OF BULK AT MOST 1048576: true; the input reads as it did. -/
def hashShardsUptoRow : OpenClaim := { program := "ytlfccmipfijjbaa", sum := "d87ea90f32a7f44224c226e0cddae4fcda095e50167dc166b4b0d343d9a7e786", func := "spigot/spigotlaw02.HashShards", spec := "hashShards", inPlace := ["internal/bytealg.Compare"], apart := false, narrowed := true }
def HashShardsUptoSaid : Prop := hashShardsUptoRow.holds Try.pinned (OpenSpec.upto hashShardsSpec)

/-- 'spigotlaw02.HashOrders', WHERE WHAT IT READS IS OF BULK AT MOST 1048576: true; the input reads as it did. -/
def hashOrdersUptoRow : OpenClaim := { program := "ytlfccmipfijjbaa", sum := "d87ea90f32a7f44224c226e0cddae4fcda095e50167dc166b4b0d343d9a7e786", func := "spigot/spigotlaw02.HashOrders", spec := "hashOrders", inPlace := ["internal/bytealg.Compare"], apart := false, narrowed := true }
def HashOrdersUptoSaid : Prop := hashOrdersUptoRow.holds Try.pinned (OpenSpec.upto hashOrdersSpec)

/-- 'spigotlaw02.HashPieces', WHERE WHAT IT READS IS OF BULK AT MOST 1048576: true; the input reads as it did. -/
def hashPiecesUptoRow : OpenClaim := { program := "ytlfccmipfijjbaa", sum := "d87ea90f32a7f44224c226e0cddae4fcda095e50167dc166b4b0d343d9a7e786", func := "spigot/spigotlaw02.HashPieces", spec := "hashPieces", inPlace := ["internal/bytealg.Compare"], apart := false, narrowed := true }
def HashPiecesUptoSaid : Prop := hashPiecesUptoRow.holds Try.pinned (OpenSpec.upto hashPiecesSpec)

/-- 'spigotlaw02.HashHalves', WHERE WHAT IT READS IS OF BULK AT MOST 1048576: true; the input reads as it did. -/
def hashHalvesUptoRow : OpenClaim := { program := "ytlfccmipfijjbaa", sum := "d87ea90f32a7f44224c226e0cddae4fcda095e50167dc166b4b0d343d9a7e786", func := "spigot/spigotlaw02.HashHalves", spec := "hashHalves", inPlace := ["internal/bytealg.Compare"], apart := false, narrowed := true }
def HashHalvesUptoSaid : Prop := hashHalvesUptoRow.holds Try.pinned (OpenSpec.upto hashHalvesSpec)

/-- 'spigotlaw02.HashIdents', WHERE WHAT IT READS IS OF BULK AT MOST 1048576: true; the input reads as it did. -/
def hashIdentsUptoRow : OpenClaim := { program := "ytlfccmipfijjbaa", sum := "d87ea90f32a7f44224c226e0cddae4fcda095e50167dc166b4b0d343d9a7e786", func := "spigot/spigotlaw02.HashIdents", spec := "hashIdents", inPlace := ["internal/bytealg.Compare"], apart := false, narrowed := true }
def HashIdentsUptoSaid : Prop := hashIdentsUptoRow.holds Try.pinned (OpenSpec.upto hashIdentsSpec)

/-- 'spigotlaw02.HashKeeps', WHERE WHAT IT READS IS OF BULK AT MOST 1048576: true; the input reads as it did. -/
def hashKeepsUptoRow : OpenClaim := { program := "ytlfccmipfijjbaa", sum := "d87ea90f32a7f44224c226e0cddae4fcda095e50167dc166b4b0d343d9a7e786", func := "spigot/spigotlaw02.HashKeeps", spec := "hashKeeps", inPlace := ["internal/bytealg.Compare"], apart := false, narrowed := true }
def HashKeepsUptoSaid : Prop := hashKeepsUptoRow.holds Try.pinned (OpenSpec.upto hashKeepsSpec)

end Rows
end Go.Proofs.Ytlfccmipfijjbaa
