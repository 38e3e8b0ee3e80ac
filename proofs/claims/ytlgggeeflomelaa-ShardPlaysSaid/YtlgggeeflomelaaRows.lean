/-
  No cell of these rows narrows 'for every input' (looked for: loops, veiled, ifaces, maps, wideKeys, modest, calm, conditions, laid).
  DERIVED. THE GIVEN ROWS OF THIS SEAT. 10 by the template 'for every input the law returns true; each argument reads behind the call as it read before'; 0 by the template 'total and deterministic' (their statements: YtlgggeeflomelaaTotals.lean).
  GIVEN WITH THE SEED: the statements are not yours to turn. If you find one false, say at which input.
  Laid BY PROGRAM, IN A SANDBOX (cutbox-rows.mjs): the forced cells as the released guide's own fill.sh prints them over the translation ef44837d5c47ab49… (all of the seat's roots in one cut). By AI agents, Wed Nov 11 2026. No macro, syntax, notation, axiom, sorry.
-/
import Derived.Test.YtlgggeeflomelaaChecked
import GoSem.Claim
import GoSem.ClaimJoined
import GoSem.ClaimMapViews
import Derived.JoinedTies
import Derived.KernelRfl
namespace Go.Proofs.Ytlgggeeflomelaa
/- THE CELL 'sum', in the pinned program and in every row, IS THE sha256 OF THE DUMP (.gsa) THAT YtlgggeeflomelaaProg.lean LOADS. Nothing in Lean hashes anything: it is a label: what it is worth is what the hold of that sum in a sandbox is worth. -/
noncomputable def Try.pinned : Pinned := { name := "ytlgggeeflomelaa", sum := "ef44837d5c47ab494eca76cbbef5125d44b6cea73e5ed7c99196473ae18830c8", checked := Try.checked }
namespace Rows
def none {H : Type} : Left H := { results := [], args := [] }

/-- 'spigotlaw13.EpochFree': WHATEVER THE INPUT: true; the input reads as it did. -/
def epochFreeSpec : ChangeSpec := { name := "epochFree", fn := fun _ => fun
  | [d] => { results := [.lit (.bool true)], args := [d] }
  | _ => none }
def epochFreeRow : OpenClaim := { program := "ytlgggeeflomelaa", sum := "ef44837d5c47ab494eca76cbbef5125d44b6cea73e5ed7c99196473ae18830c8", func := "spigot/spigotlaw13.EpochFree", spec := "epochFree", unfollowed := true, recurses := true, apart := false }
def EpochFreeSaid : Prop := epochFreeRow.holds Try.pinned (OpenSpec.ofChange epochFreeSpec)

/-- ITS FALSE NEIGHBOUR: 'it returns false'. Refute it at one input. -/
def epochFreeWrong : ChangeSpec := { name := "epochFree", fn := fun _ => fun
  | [d] => { results := [.lit (.bool false)], args := [d] }
  | _ => none }
def EpochFreeWrongFalsely : Prop := epochFreeRow.holds Try.pinned (OpenSpec.ofChange epochFreeWrong)

/-- 'spigotlaw13.EpochNear': WHATEVER THE INPUT: true; the input reads as it did. -/
def epochNearSpec : ChangeSpec := { name := "epochNear", fn := fun _ => fun
  | [d] => { results := [.lit (.bool true)], args := [d] }
  | _ => none }
def epochNearRow : OpenClaim := { program := "ytlgggeeflomelaa", sum := "ef44837d5c47ab494eca76cbbef5125d44b6cea73e5ed7c99196473ae18830c8", func := "spigot/spigotlaw13.EpochNear", spec := "epochNear", unfollowed := true, recurses := true, apart := false }
def EpochNearSaid : Prop := epochNearRow.holds Try.pinned (OpenSpec.ofChange epochNearSpec)

/-- ITS FALSE NEIGHBOUR: 'it returns false'. Refute it at one input. -/
def epochNearWrong : ChangeSpec := { name := "epochNear", fn := fun _ => fun
  | [d] => { results := [.lit (.bool false)], args := [d] }
  | _ => none }
def EpochNearWrongFalsely : Prop := epochNearRow.holds Try.pinned (OpenSpec.ofChange epochNearWrong)

/-- 'spigotlaw13.EpochOwn': WHATEVER THE INPUT: true; the input reads as it did. -/
def epochOwnSpec : ChangeSpec := { name := "epochOwn", fn := fun _ => fun
  | [d] => { results := [.lit (.bool true)], args := [d] }
  | _ => none }
def epochOwnRow : OpenClaim := { program := "ytlgggeeflomelaa", sum := "ef44837d5c47ab494eca76cbbef5125d44b6cea73e5ed7c99196473ae18830c8", func := "spigot/spigotlaw13.EpochOwn", spec := "epochOwn", unfollowed := true, recurses := true, apart := false }
def EpochOwnSaid : Prop := epochOwnRow.holds Try.pinned (OpenSpec.ofChange epochOwnSpec)

/-- ITS FALSE NEIGHBOUR: 'it returns false'. Refute it at one input. -/
def epochOwnWrong : ChangeSpec := { name := "epochOwn", fn := fun _ => fun
  | [d] => { results := [.lit (.bool false)], args := [d] }
  | _ => none }
def EpochOwnWrongFalsely : Prop := epochOwnRow.holds Try.pinned (OpenSpec.ofChange epochOwnWrong)

/-- 'spigotlaw13.EpochPlays': WHATEVER THE INPUT: true; the input reads as it did. -/
def epochPlaysSpec : ChangeSpec := { name := "epochPlays", fn := fun _ => fun
  | [d1, d2] => { results := [.lit (.bool true)], args := [d1, d2] }
  | _ => none }
def epochPlaysRow : OpenClaim := { program := "ytlgggeeflomelaa", sum := "ef44837d5c47ab494eca76cbbef5125d44b6cea73e5ed7c99196473ae18830c8", func := "spigot/spigotlaw13.EpochPlays", spec := "epochPlays", unfollowed := true, recurses := true, apart := false }
def EpochPlaysSaid : Prop := epochPlaysRow.holds Try.pinned (OpenSpec.ofChange epochPlaysSpec)

/-- ITS FALSE NEIGHBOUR: 'it returns false'. Refute it at one input. -/
def epochPlaysWrong : ChangeSpec := { name := "epochPlays", fn := fun _ => fun
  | [d1, d2] => { results := [.lit (.bool false)], args := [d1, d2] }
  | _ => none }
def EpochPlaysWrongFalsely : Prop := epochPlaysRow.holds Try.pinned (OpenSpec.ofChange epochPlaysWrong)

/-- 'spigotlaw13.EpochSafe': WHATEVER THE INPUT: true; the input reads as it did. -/
def epochSafeSpec : ChangeSpec := { name := "epochSafe", fn := fun _ => fun
  | [d] => { results := [.lit (.bool true)], args := [d] }
  | _ => none }
def epochSafeRow : OpenClaim := { program := "ytlgggeeflomelaa", sum := "ef44837d5c47ab494eca76cbbef5125d44b6cea73e5ed7c99196473ae18830c8", func := "spigot/spigotlaw13.EpochSafe", spec := "epochSafe", unfollowed := true, recurses := true, apart := false }
def EpochSafeSaid : Prop := epochSafeRow.holds Try.pinned (OpenSpec.ofChange epochSafeSpec)

/-- ITS FALSE NEIGHBOUR: 'it returns false'. Refute it at one input. -/
def epochSafeWrong : ChangeSpec := { name := "epochSafe", fn := fun _ => fun
  | [d] => { results := [.lit (.bool false)], args := [d] }
  | _ => none }
def EpochSafeWrongFalsely : Prop := epochSafeRow.holds Try.pinned (OpenSpec.ofChange epochSafeWrong)

/-- 'spigotlaw14.ShardFree': WHATEVER THE INPUT: true; the input reads as it did. -/
def shardFreeSpec : ChangeSpec := { name := "shardFree", fn := fun _ => fun
  | [d1, d2] => { results := [.lit (.bool true)], args := [d1, d2] }
  | _ => none }
def shardFreeRow : OpenClaim := { program := "ytlgggeeflomelaa", sum := "ef44837d5c47ab494eca76cbbef5125d44b6cea73e5ed7c99196473ae18830c8", func := "spigot/spigotlaw14.ShardFree", spec := "shardFree", inPlace := ["internal/bytealg.Compare", "slices.overlaps[spigot/shard.Entry]"], unfollowed := true, recurses := true, apart := false }
def ShardFreeSaid : Prop := shardFreeRow.holds Try.pinned (OpenSpec.ofChange shardFreeSpec)

/-- ITS FALSE NEIGHBOUR: 'it returns false'. Refute it at one input. -/
def shardFreeWrong : ChangeSpec := { name := "shardFree", fn := fun _ => fun
  | [d1, d2] => { results := [.lit (.bool false)], args := [d1, d2] }
  | _ => none }
def ShardFreeWrongFalsely : Prop := shardFreeRow.holds Try.pinned (OpenSpec.ofChange shardFreeWrong)

/-- 'spigotlaw14.ShardVersions': WHATEVER THE INPUT: true; the input reads as it did. -/
def shardVersionsSpec : ChangeSpec := { name := "shardVersions", fn := fun _ => fun
  | [d] => { results := [.lit (.bool true)], args := [d] }
  | _ => none }
def shardVersionsRow : OpenClaim := { program := "ytlgggeeflomelaa", sum := "ef44837d5c47ab494eca76cbbef5125d44b6cea73e5ed7c99196473ae18830c8", func := "spigot/spigotlaw14.ShardVersions", spec := "shardVersions", inPlace := ["internal/bytealg.Compare", "slices.overlaps[spigot/shard.Entry]"], unfollowed := true, recurses := true, apart := false }
def ShardVersionsSaid : Prop := shardVersionsRow.holds Try.pinned (OpenSpec.ofChange shardVersionsSpec)

/-- ITS FALSE NEIGHBOUR: 'it returns false'. Refute it at one input. -/
def shardVersionsWrong : ChangeSpec := { name := "shardVersions", fn := fun _ => fun
  | [d] => { results := [.lit (.bool false)], args := [d] }
  | _ => none }
def ShardVersionsWrongFalsely : Prop := shardVersionsRow.holds Try.pinned (OpenSpec.ofChange shardVersionsWrong)

/-- 'spigotlaw14.ShardPlays': WHATEVER THE INPUT: true; the input reads as it did. -/
def shardPlaysSpec : ChangeSpec := { name := "shardPlays", fn := fun _ => fun
  | [d] => { results := [.lit (.bool true)], args := [d] }
  | _ => none }
def shardPlaysRow : OpenClaim := { program := "ytlgggeeflomelaa", sum := "ef44837d5c47ab494eca76cbbef5125d44b6cea73e5ed7c99196473ae18830c8", func := "spigot/spigotlaw14.ShardPlays", spec := "shardPlays", inPlace := ["internal/bytealg.Compare", "slices.overlaps[spigot/shard.Entry]"], unfollowed := true, recurses := true, apart := false }
def ShardPlaysSaid : Prop := shardPlaysRow.holds Try.pinned (OpenSpec.ofChange shardPlaysSpec)

/-- ITS FALSE NEIGHBOUR: 'it returns false'. Refute it at one input. -/
def shardPlaysWrong : ChangeSpec := { name := "shardPlays", fn := fun _ => fun
  | [d] => { results := [.lit (.bool false)], args := [d] }
  | _ => none }
def ShardPlaysWrongFalsely : Prop := shardPlaysRow.holds Try.pinned (OpenSpec.ofChange shardPlaysWrong)

/-- 'spigotlaw14.ShardNil': WHATEVER THE INPUT: true; the input reads as it did. -/
def shardNilSpec : ChangeSpec := { name := "shardNil", fn := fun _ => fun
  | [d] => { results := [.lit (.bool true)], args := [d] }
  | _ => none }
def shardNilRow : OpenClaim := { program := "ytlgggeeflomelaa", sum := "ef44837d5c47ab494eca76cbbef5125d44b6cea73e5ed7c99196473ae18830c8", func := "spigot/spigotlaw14.ShardNil", spec := "shardNil", inPlace := ["internal/bytealg.Compare", "slices.overlaps[spigot/shard.Entry]"], unfollowed := true, recurses := true, apart := false }
def ShardNilSaid : Prop := shardNilRow.holds Try.pinned (OpenSpec.ofChange shardNilSpec)

/-- ITS FALSE NEIGHBOUR: 'it returns false'. Refute it at one input. -/
def shardNilWrong : ChangeSpec := { name := "shardNil", fn := fun _ => fun
  | [d] => { results := [.lit (.bool false)], args := [d] }
  | _ => none }
def ShardNilWrongFalsely : Prop := shardNilRow.holds Try.pinned (OpenSpec.ofChange shardNilWrong)

/-- 'spigotlaw14.ShardAtOnce': WHATEVER THE INPUT: true; the input reads as it did. -/
def shardAtOnceSpec : ChangeSpec := { name := "shardAtOnce", fn := fun _ => fun
  | [d] => { results := [.lit (.bool true)], args := [d] }
  | _ => none }
def shardAtOnceRow : OpenClaim := { program := "ytlgggeeflomelaa", sum := "ef44837d5c47ab494eca76cbbef5125d44b6cea73e5ed7c99196473ae18830c8", func := "spigot/spigotlaw14.ShardAtOnce", spec := "shardAtOnce", inPlace := ["internal/bytealg.Compare", "slices.overlaps[spigot/shard.Entry]"], unfollowed := true, recurses := true, apart := false }
def ShardAtOnceSaid : Prop := shardAtOnceRow.holds Try.pinned (OpenSpec.ofChange shardAtOnceSpec)

/-- ITS FALSE NEIGHBOUR: 'it returns false'. Refute it at one input. -/
def shardAtOnceWrong : ChangeSpec := { name := "shardAtOnce", fn := fun _ => fun
  | [d] => { results := [.lit (.bool false)], args := [d] }
  | _ => none }
def ShardAtOnceWrongFalsely : Prop := shardAtOnceRow.holds Try.pinned (OpenSpec.ofChange shardAtOnceWrong)

/- THE SECOND FORM. 'bulk': how many values and letters a reading holds, each counted each time it is reached (what is shared counts as often as it is met; a slice's spare places count too). A statement '..UptoSaid' is the law's where the arguments, and the package variables that the reading takes, are together of bulk at most 1048576: NARROWER than '..Said'. Prove '..Said' where nothing that the law and all that it calls make is longer than what came in: it says more and counts as full. Else prove '..UptoSaid'. A law counts once. -/
mutual
def uptoBulk {H : Type} : DataW H → Nat
  | .lit (.string bytes) => bytes.length + 1
  | .lit _ => 1
  | .nil => 1
  | .ptr d => uptoBulk d + 1
  | .slice elems spare => uptoBulkAll elems + uptoBulkAll spare + 1
  | .agg parts => uptoBulkAll parts + 1
  | .iface _ d => uptoBulk d + 1
  | .map entries => uptoBulkEntries entries + 1
  | .held _ => 1
def uptoBulkAll {H : Type} : List (DataW H) → Nat
  | [] => 0
  | d :: r => uptoBulk d + uptoBulkAll r
def uptoBulkEntries {H : Type} : List (Lit × DataW H) → Nat
  | [] => 0
  | x :: r => uptoBulkEntry x + uptoBulkEntries r
def uptoBulkEntry {H : Type} : Lit × DataW H → Nat
  | (.string bytes, d) => bytes.length + uptoBulk d + 1
  | (_, d) => uptoBulk d + 1
 end
def uptoSmall : (H : Type) → List (DataW H) → Bool := fun _ ds => decide (uptoBulkAll ds ≤ 1048576)
def OpenSpec.upto (s : _root_.Go.ChangeSpec) : _root_.Go.OpenSpec := { _root_.Go.OpenSpec.ofChange s with cond := some uptoSmall }

/-- 'spigotlaw13.EpochFree', WHERE WHAT IT READS IS OF BULK AT MOST 1048576: true; the input reads as it did. -/
def epochFreeUptoRow : OpenClaim := { program := "ytlgggeeflomelaa", sum := "ef44837d5c47ab494eca76cbbef5125d44b6cea73e5ed7c99196473ae18830c8", func := "spigot/spigotlaw13.EpochFree", spec := "epochFree", unfollowed := true, recurses := true, apart := false, narrowed := true }
def EpochFreeUptoSaid : Prop := epochFreeUptoRow.holds Try.pinned (OpenSpec.upto epochFreeSpec)

/-- 'spigotlaw13.EpochNear', WHERE WHAT IT READS IS OF BULK AT MOST 1048576: true; the input reads as it did. -/
def epochNearUptoRow : OpenClaim := { program := "ytlgggeeflomelaa", sum := "ef44837d5c47ab494eca76cbbef5125d44b6cea73e5ed7c99196473ae18830c8", func := "spigot/spigotlaw13.EpochNear", spec := "epochNear", unfollowed := true, recurses := true, apart := false, narrowed := true }
def EpochNearUptoSaid : Prop := epochNearUptoRow.holds Try.pinned (OpenSpec.upto epochNearSpec)

/-- 'spigotlaw13.EpochOwn', WHERE WHAT IT READS IS OF BULK AT MOST 1048576: true; the input reads as it did. -/
def epochOwnUptoRow : OpenClaim := { program := "ytlgggeeflomelaa", sum := "ef44837d5c47ab494eca76cbbef5125d44b6cea73e5ed7c99196473ae18830c8", func := "spigot/spigotlaw13.EpochOwn", spec := "epochOwn", unfollowed := true, recurses := true, apart := false, narrowed := true }
def EpochOwnUptoSaid : Prop := epochOwnUptoRow.holds Try.pinned (OpenSpec.upto epochOwnSpec)

/-- 'spigotlaw13.EpochPlays', WHERE WHAT IT READS IS OF BULK AT MOST 1048576: true; the input reads as it did. -/
def epochPlaysUptoRow : OpenClaim := { program := "ytlgggeeflomelaa", sum := "ef44837d5c47ab494eca76cbbef5125d44b6cea73e5ed7c99196473ae18830c8", func := "spigot/spigotlaw13.EpochPlays", spec := "epochPlays", unfollowed := true, recurses := true, apart := false, narrowed := true }
def EpochPlaysUptoSaid : Prop := epochPlaysUptoRow.holds Try.pinned (OpenSpec.upto epochPlaysSpec)

/-- 'spigotlaw13.EpochSafe', WHERE WHAT IT READS IS OF BULK AT MOST 1048576: true; the input reads as it did. -/
def epochSafeUptoRow : OpenClaim := { program := "ytlgggeeflomelaa", sum := "ef44837d5c47ab494eca76cbbef5125d44b6cea73e5ed7c99196473ae18830c8", func := "spigot/spigotlaw13.EpochSafe", spec := "epochSafe", unfollowed := true, recurses := true, apart := false, narrowed := true }
def EpochSafeUptoSaid : Prop := epochSafeUptoRow.holds Try.pinned (OpenSpec.upto epochSafeSpec)

/-- 'spigotlaw14.ShardFree', WHERE WHAT IT READS IS OF BULK AT MOST 1048576: true; the input reads as it did. -/
def shardFreeUptoRow : OpenClaim := { program := "ytlgggeeflomelaa", sum := "ef44837d5c47ab494eca76cbbef5125d44b6cea73e5ed7c99196473ae18830c8", func := "spigot/spigotlaw14.ShardFree", spec := "shardFree", inPlace := ["internal/bytealg.Compare", "slices.overlaps[spigot/shard.Entry]"], unfollowed := true, recurses := true, apart := false, narrowed := true }
def ShardFreeUptoSaid : Prop := shardFreeUptoRow.holds Try.pinned (OpenSpec.upto shardFreeSpec)

/-- 'spigotlaw14.ShardVersions', WHERE WHAT IT READS IS OF BULK AT MOST 1048576: true; the input reads as it did. -/
def shardVersionsUptoRow : OpenClaim := { program := "ytlgggeeflomelaa", sum := "ef44837d5c47ab494eca76cbbef5125d44b6cea73e5ed7c99196473ae18830c8", func := "spigot/spigotlaw14.ShardVersions", spec := "shardVersions", inPlace := ["internal/bytealg.Compare", "slices.overlaps[spigot/shard.Entry]"], unfollowed := true, recurses := true, apart := false, narrowed := true }
def ShardVersionsUptoSaid : Prop := shardVersionsUptoRow.holds Try.pinned (OpenSpec.upto shardVersionsSpec)

/-- 'spigotlaw14.ShardPlays', WHERE WHAT IT READS IS OF BULK AT MOST 1048576: true; the input reads as it did. -/
def shardPlaysUptoRow : OpenClaim := { program := "ytlgggeeflomelaa", sum := "ef44837d5c47ab494eca76cbbef5125d44b6cea73e5ed7c99196473ae18830c8", func := "spigot/spigotlaw14.ShardPlays", spec := "shardPlays", inPlace := ["internal/bytealg.Compare", "slices.overlaps[spigot/shard.Entry]"], unfollowed := true, recurses := true, apart := false, narrowed := true }
def ShardPlaysUptoSaid : Prop := shardPlaysUptoRow.holds Try.pinned (OpenSpec.upto shardPlaysSpec)

/-- 'spigotlaw14.ShardNil', WHERE WHAT IT READS IS OF BULK AT MOST 1048576: true; the input reads as it did. -/
def shardNilUptoRow : OpenClaim := { program := "ytlgggeeflomelaa", sum := "ef44837d5c47ab494eca76cbbef5125d44b6cea73e5ed7c99196473ae18830c8", func := "spigot/spigotlaw14.ShardNil", spec := "shardNil", inPlace := ["internal/bytealg.Compare", "slices.overlaps[spigot/shard.Entry]"], unfollowed := true, recurses := true, apart := false, narrowed := true }
def ShardNilUptoSaid : Prop := shardNilUptoRow.holds Try.pinned (OpenSpec.upto shardNilSpec)

/-- 'spigotlaw14.ShardAtOnce', WHERE WHAT IT READS IS OF BULK AT MOST 1048576: true; the input reads as it did. -/
def shardAtOnceUptoRow : OpenClaim := { program := "ytlgggeeflomelaa", sum := "ef44837d5c47ab494eca76cbbef5125d44b6cea73e5ed7c99196473ae18830c8", func := "spigot/spigotlaw14.ShardAtOnce", spec := "shardAtOnce", inPlace := ["internal/bytealg.Compare", "slices.overlaps[spigot/shard.Entry]"], unfollowed := true, recurses := true, apart := false, narrowed := true }
def ShardAtOnceUptoSaid : Prop := shardAtOnceUptoRow.holds Try.pinned (OpenSpec.upto shardAtOnceSpec)

end Rows
end Go.Proofs.Ytlgggeeflomelaa
