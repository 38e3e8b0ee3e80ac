/-
  No cell of these rows narrows 'for every input' (looked for: loops, veiled, ifaces, maps, wideKeys, modest, calm, conditions, laid).
  DERIVED. THE GIVEN ROWS OF THIS SEAT. 7 by the template 'for every input the law returns true; each argument reads behind the call as it read before'; 0 by the template 'total and deterministic' (their statements: YtfjgpeffhbfihaaTotals.lean).
  GIVEN WITH THE SEED: the statements are not yours to turn. If you find one false, say at which input.
  Laid BY PROGRAM, IN A SANDBOX (cutbox-rows.mjs): the forced cells as the released guide's own fill.sh prints them over the translation bfed70831766ee58… (all of the seat's roots in one cut). By AI agents, Wed Nov 11 2026. No macro, syntax, notation, axiom, sorry.
-/
import Derived.Test.YtfjgpeffhbfihaaChecked
import GoSem.Claim
import GoSem.ClaimJoined
import GoSem.ClaimMapViews
import Derived.JoinedTies
import Derived.KernelRfl
namespace Go.Proofs.Ytfjgpeffhbfihaa
/- THE CELL 'sum', in the pinned program and in every row, IS THE sha256 OF THE DUMP (.gsa) THAT YtfjgpeffhbfihaaProg.lean LOADS. Nothing in Lean hashes anything: it is a label: what it is worth is what the hold of that sum in a sandbox is worth. -/
noncomputable def Try.pinned : Pinned := { name := "ytfjgpeffhbfihaa", sum := "bfed70831766ee58de01b155dfb039a699386ac10851507663ae651420c807b0", checked := Try.checked }
namespace Rows
def none {H : Type} : Left H := { results := [], args := [] }

/-- 'spigotlaw11.MachTail': WHATEVER THE INPUT: true; the input reads as it did. -/
def machTailSpec : ChangeSpec := { name := "machTail", fn := fun _ => fun
  | [d1, d2, d3] => { results := [.lit (.bool true)], args := [d1, d2, d3] }
  | _ => none }
def machTailRow : OpenClaim := { program := "ytfjgpeffhbfihaa", sum := "bfed70831766ee58de01b155dfb039a699386ac10851507663ae651420c807b0", func := "spigot/spigotlaw11.MachTail", spec := "machTail", apart := false }
def MachTailSaid : Prop := machTailRow.holds Try.pinned (OpenSpec.ofChange machTailSpec)

/-- ITS FALSE NEIGHBOUR: 'it returns false'. Refute it at one input. -/
def machTailWrong : ChangeSpec := { name := "machTail", fn := fun _ => fun
  | [d1, d2, d3] => { results := [.lit (.bool false)], args := [d1, d2, d3] }
  | _ => none }
def MachTailWrongFalsely : Prop := machTailRow.holds Try.pinned (OpenSpec.ofChange machTailWrong)

/-- 'spigotlaw11.MachOnes': WHATEVER THE INPUT: true; the input reads as it did. -/
def machOnesSpec : ChangeSpec := { name := "machOnes", fn := fun _ => fun
  | [d1, d2] => { results := [.lit (.bool true)], args := [d1, d2] }
  | _ => none }
def machOnesRow : OpenClaim := { program := "ytfjgpeffhbfihaa", sum := "bfed70831766ee58de01b155dfb039a699386ac10851507663ae651420c807b0", func := "spigot/spigotlaw11.MachOnes", spec := "machOnes", apart := false }
def MachOnesSaid : Prop := machOnesRow.holds Try.pinned (OpenSpec.ofChange machOnesSpec)

/-- ITS FALSE NEIGHBOUR: 'it returns false'. Refute it at one input. -/
def machOnesWrong : ChangeSpec := { name := "machOnes", fn := fun _ => fun
  | [d1, d2] => { results := [.lit (.bool false)], args := [d1, d2] }
  | _ => none }
def MachOnesWrongFalsely : Prop := machOnesRow.holds Try.pinned (OpenSpec.ofChange machOnesWrong)

/-- 'spigotlaw11.MachReals': WHATEVER THE INPUT: true; the input reads as it did. -/
def machRealsSpec : ChangeSpec := { name := "machReals", fn := fun _ => fun
  | [d1, d2] => { results := [.lit (.bool true)], args := [d1, d2] }
  | _ => none }
def machRealsRow : OpenClaim := { program := "ytfjgpeffhbfihaa", sum := "bfed70831766ee58de01b155dfb039a699386ac10851507663ae651420c807b0", func := "spigot/spigotlaw11.MachReals", spec := "machReals", inPlace := ["sync/atomic.LoadUint64", "sync/atomic.CompareAndSwapUint64", "sync/atomic.LoadInt64", "sync/atomic.CompareAndSwapInt64"], apart := false }
def MachRealsSaid : Prop := machRealsRow.holds Try.pinned (OpenSpec.ofChange machRealsSpec)

/-- ITS FALSE NEIGHBOUR: 'it returns false'. Refute it at one input. -/
def machRealsWrong : ChangeSpec := { name := "machReals", fn := fun _ => fun
  | [d1, d2] => { results := [.lit (.bool false)], args := [d1, d2] }
  | _ => none }
def MachRealsWrongFalsely : Prop := machRealsRow.holds Try.pinned (OpenSpec.ofChange machRealsWrong)

/-- 'spigotlaw12.CountPlays': WHATEVER THE INPUT: true; the input reads as it did. -/
def countPlaysSpec : ChangeSpec := { name := "countPlays", fn := fun _ => fun
  | [d1, d2] => { results := [.lit (.bool true)], args := [d1, d2] }
  | _ => none }
def countPlaysRow : OpenClaim := { program := "ytfjgpeffhbfihaa", sum := "bfed70831766ee58de01b155dfb039a699386ac10851507663ae651420c807b0", func := "spigot/spigotlaw12.CountPlays", spec := "countPlays", unfollowed := true, recurses := true, apart := false }
def CountPlaysSaid : Prop := countPlaysRow.holds Try.pinned (OpenSpec.ofChange countPlaysSpec)

/-- ITS FALSE NEIGHBOUR: 'it returns false'. Refute it at one input. -/
def countPlaysWrong : ChangeSpec := { name := "countPlays", fn := fun _ => fun
  | [d1, d2] => { results := [.lit (.bool false)], args := [d1, d2] }
  | _ => none }
def CountPlaysWrongFalsely : Prop := countPlaysRow.holds Try.pinned (OpenSpec.ofChange countPlaysWrong)

/-- 'spigotlaw12.CountHolds': WHATEVER THE INPUT: true; the input reads as it did. -/
def countHoldsSpec : ChangeSpec := { name := "countHolds", fn := fun _ => fun
  | [d1, d2] => { results := [.lit (.bool true)], args := [d1, d2] }
  | _ => none }
def countHoldsRow : OpenClaim := { program := "ytfjgpeffhbfihaa", sum := "bfed70831766ee58de01b155dfb039a699386ac10851507663ae651420c807b0", func := "spigot/spigotlaw12.CountHolds", spec := "countHolds", unfollowed := true, recurses := true, apart := false }
def CountHoldsSaid : Prop := countHoldsRow.holds Try.pinned (OpenSpec.ofChange countHoldsSpec)

/-- ITS FALSE NEIGHBOUR: 'it returns false'. Refute it at one input. -/
def countHoldsWrong : ChangeSpec := { name := "countHolds", fn := fun _ => fun
  | [d1, d2] => { results := [.lit (.bool false)], args := [d1, d2] }
  | _ => none }
def CountHoldsWrongFalsely : Prop := countHoldsRow.holds Try.pinned (OpenSpec.ofChange countHoldsWrong)

/-- 'spigotlaw12.CountFree': WHATEVER THE INPUT: true; the input reads as it did. -/
def countFreeSpec : ChangeSpec := { name := "countFree", fn := fun _ => fun
  | [d1, d2, d3] => { results := [.lit (.bool true)], args := [d1, d2, d3] }
  | _ => none }
def countFreeRow : OpenClaim := { program := "ytfjgpeffhbfihaa", sum := "bfed70831766ee58de01b155dfb039a699386ac10851507663ae651420c807b0", func := "spigot/spigotlaw12.CountFree", spec := "countFree", unfollowed := true, recurses := true, apart := false }
def CountFreeSaid : Prop := countFreeRow.holds Try.pinned (OpenSpec.ofChange countFreeSpec)

/-- ITS FALSE NEIGHBOUR: 'it returns false'. Refute it at one input. -/
def countFreeWrong : ChangeSpec := { name := "countFree", fn := fun _ => fun
  | [d1, d2, d3] => { results := [.lit (.bool false)], args := [d1, d2, d3] }
  | _ => none }
def CountFreeWrongFalsely : Prop := countFreeRow.holds Try.pinned (OpenSpec.ofChange countFreeWrong)

/-- 'spigotlaw12.CountAtOnce': WHATEVER THE INPUT: true; the input reads as it did. -/
def countAtOnceSpec : ChangeSpec := { name := "countAtOnce", fn := fun _ => fun
  | [d1, d2] => { results := [.lit (.bool true)], args := [d1, d2] }
  | _ => none }
def countAtOnceRow : OpenClaim := { program := "ytfjgpeffhbfihaa", sum := "bfed70831766ee58de01b155dfb039a699386ac10851507663ae651420c807b0", func := "spigot/spigotlaw12.CountAtOnce", spec := "countAtOnce", unfollowed := true, recurses := true, apart := false }
def CountAtOnceSaid : Prop := countAtOnceRow.holds Try.pinned (OpenSpec.ofChange countAtOnceSpec)

/-- ITS FALSE NEIGHBOUR: 'it returns false'. Refute it at one input. -/
def countAtOnceWrong : ChangeSpec := { name := "countAtOnce", fn := fun _ => fun
  | [d1, d2] => { results := [.lit (.bool false)], args := [d1, d2] }
  | _ => none }
def CountAtOnceWrongFalsely : Prop := countAtOnceRow.holds Try.pinned (OpenSpec.ofChange countAtOnceWrong)

/- THE SECOND FORM. 'bulk': how many values and letters a reading holds, each counted each time it is reached (what is shared counts as often as it is met; a slice's spare places count too). A statement '..UptoSaid' is the law's where the arguments, and the package variables that the reading takes, are together of bulk at most 1048576: NARROWER than '..Said'. Prove '..Said' where nothing that the law and all that it calls make is longer than what came in: it says more and counts as full. Else prove '..UptoSaid'. A law counts once. -/
mutual
def uptoBulk {H : Type} : DataW H → Nat
  | .lit (.string bytes) => bytes.length + 1
  | .lit _ => 1
  | .nil => 1
  | .ptr d => uptoBulk d + 1
  | .slice elems spare => uptoBulkAll elems + uptoBulkAll spare + 1
  | .agg parts => uptoBulkAll parts + 1
  | .iface _ d => uptoBulk d + 1
  | .map entries => uptoBulkEntries entries + 1
  | .held _ => 1
def uptoBulkAll {H : Type} : List (DataW H) → Nat
  | [] => 0
  | d :: r => uptoBulk d + uptoBulkAll r
def uptoBulkEntries {H : Type} : List (Lit × DataW H) → Nat
  | [] => 0
  | x :: r => uptoBulkEntry x + uptoBulkEntries r
def uptoBulkEntry {H : Type} : Lit × DataW H → Nat
  | (.string bytes, d) => bytes.length + uptoBulk d + 1
  | (_, d) => uptoBulk d + 1
 end
def uptoSmall : (H : Type) → List (DataW H) → Bool := fun _ ds => decide (uptoBulkAll ds ≤ 1048576)
def OpenSpec.upto (s : _root_.Go.ChangeSpec) : _root_.Go.OpenSpec := { _root_.Go.OpenSpec.ofChange s with cond := some uptoSmall }

/-- 'spigotlaw11.MachTail', WHERE WHAT IT READS IS OF BULK AT MOST 1048576: true; the input reads as it did. -/
def machTailUptoRow : OpenClaim := { program := "ytfjgpeffhbfihaa", sum := "bfed70831766ee58de01b155dfb039a699386ac10851507663ae651420c807b0", func := "spigot/spigotlaw11.MachTail", spec := "machTail", apart := false, narrowed := true }
def MachTailUptoSaid : Prop := machTailUptoRow.holds Try.pinned (OpenSpec.upto machTailSpec)

/-- 'spigotlaw11.MachOnes', WHERE WHAT IT READS IS OF BULK AT MOST 1048576: true; the input reads as it did. -/
def machOnesUptoRow : OpenClaim := { program := "ytfjgpeffhbfihaa", sum := "bfed70831766ee58de01b155dfb039a699386ac10851507663ae651420c807b0", func := "spigot/spigotlaw11.MachOnes", spec := "machOnes", apart := false, narrowed := true }
def MachOnesUptoSaid : Prop := machOnesUptoRow.holds Try.pinned (OpenSpec.upto machOnesSpec)

/-- 'spigotlaw11.MachReals', WHERE WHAT IT READS IS OF BULK AT MOST 1048576: true; the input reads as it did. -/
def machRealsUptoRow : OpenClaim := { program := "ytfjgpeffhbfihaa", sum := "bfed70831766ee58de01b155dfb039a699386ac10851507663ae651420c807b0", func := "spigot/spigotlaw11.MachReals", spec := "machReals", inPlace := ["sync/atomic.LoadUint64", "sync/atomic.CompareAndSwapUint64", "sync/atomic.LoadInt64", "sync/atomic.CompareAndSwapInt64"], apart := false, narrowed := true }
def MachRealsUptoSaid : Prop := machRealsUptoRow.holds Try.pinned (OpenSpec.upto machRealsSpec)

/-- 'spigotlaw12.CountPlays', WHERE WHAT IT READS IS OF BULK AT MOST 1048576: true; the input reads as it did. -/
def countPlaysUptoRow : OpenClaim := { program := "ytfjgpeffhbfihaa", sum := "bfed70831766ee58de01b155dfb039a699386ac10851507663ae651420c807b0", func := "spigot/spigotlaw12.CountPlays", spec := "countPlays", unfollowed := true, recurses := true, apart := false, narrowed := true }
def CountPlaysUptoSaid : Prop := countPlaysUptoRow.holds Try.pinned (OpenSpec.upto countPlaysSpec)

/-- 'spigotlaw12.CountHolds', WHERE WHAT IT READS IS OF BULK AT MOST 1048576: true; the input reads as it did. -/
def countHoldsUptoRow : OpenClaim := { program := "ytfjgpeffhbfihaa", sum := "bfed70831766ee58de01b155dfb039a699386ac10851507663ae651420c807b0", func := "spigot/spigotlaw12.CountHolds", spec := "countHolds", unfollowed := true, recurses := true, apart := false, narrowed := true }
def CountHoldsUptoSaid : Prop := countHoldsUptoRow.holds Try.pinned (OpenSpec.upto countHoldsSpec)

/-- 'spigotlaw12.CountFree', WHERE WHAT IT READS IS OF BULK AT MOST 1048576: true; the input reads as it did. -/
def countFreeUptoRow : OpenClaim := { program := "ytfjgpeffhbfihaa", sum := "bfed70831766ee58de01b155dfb039a699386ac10851507663ae651420c807b0", func := "spigot/spigotlaw12.CountFree", spec := "countFree", unfollowed := true, recurses := true, apart := false, narrowed := true }
def CountFreeUptoSaid : Prop := countFreeUptoRow.holds Try.pinned (OpenSpec.upto countFreeSpec)

/-- 'spigotlaw12.CountAtOnce', WHERE WHAT IT READS IS OF BULK AT MOST 1048576: true; the input reads as it did. -/
def countAtOnceUptoRow : OpenClaim := { program := "ytfjgpeffhbfihaa", sum := "bfed70831766ee58de01b155dfb039a699386ac10851507663ae651420c807b0", func := "spigot/spigotlaw12.CountAtOnce", spec := "countAtOnce", unfollowed := true, recurses := true, apart := false, narrowed := true }
def CountAtOnceUptoSaid : Prop := countAtOnceUptoRow.holds Try.pinned (OpenSpec.upto countAtOnceSpec)

end Rows
end Go.Proofs.Ytfjgpeffhbfihaa
