/-
  'ShardFree': for every input the statement's function answers true, and what came in reads behind the call as it did before it.
  No condition of its own: the form's own.
-/
import Derived.Test.YtlgggeeflomelaaRows
import Derived.Test.YtlgggeeflomelaaLawShardFree
import Derived.Test.YtlgggeeflomelaaFrame8
import Derived.ProofKit
import Derived.OpenShut
import Derived.ShutString
import Derived.ChangeOld
import Derived.JoinedCond
import Derived.SizedLaws
namespace Go.Proofs.Ytlgggeeflomelaa.shardFreeProof
open Go.ChangeShapes Go.WideShapes Go.ChangeAt Go.RowKit
open Go.ChangeMaps (open_string shut_string)
set_option linter.unusedVariables false

theorem own : ownKnob Try.prog.godebug = none := by kernel_rfl
theorem laidOut : laidOutB Try.prog = true := by kernel_rfl

set_option maxRecDepth 100000 in
theorem lifted (os : Os) (started : os.Started) (H : Type) (enc : TypeId × Value → H) :
    ReturnsInHanded {} Try.checked os 8 .any (Rows.shardFreeSpec.pre6 enc Try.prog Try.f8 Rows.shardFreeRow.domain false) (Rows.shardFreeSpec.post enc Try.prog Try.f8 false true false false) := by
  refine returnsInHanded_of_change_sized (C := Try.checked) own started (by kernel_rfl) Try.func8
    (ChangeSpec.witness6 (enc := enc) (C := Try.checked) false ⟨#[], #[.int .u8 0, .slice none 0 0], []⟩ 8 (by kernel_rfl) (by kernel_rfl) (by kernel_rfl) (by kernel_rfl)) ?_
  intro W base args ds gs before hval0 hW hcnd hsz _
  have hval : ∀ (j : Nat) t v, Try.f8.params[j]? = some t → args[j]? = some v → Value.okWide Try.prog W .any base t v := hval0
  have hW' := hW
  obtain ⟨p, q, hA0, hV, rfl, hfz, hnd⟩ := hW
  have hA : DataW.TrodAll enc Try.prog W 0 (fun _ => true) true Try.f8.params.toList args.toList ds p := hA0
  rw [Try.params8] at hA hval hsz
  obtain ⟨v0, vs0, d0, ds0, p0, q0, hargs, rfl, rfl, h0, r0⟩ := trodAll_cons hA
  obtain ⟨v1, vs1, d1, ds1, p1, q1, rfl, rfl, rfl, h1, r1⟩ := trodAll_cons r0
  obtain ⟨rfl, rfl, rfl⟩ := trodAll_nil r1
  obtain rfl : args = #[v0, v1] := by cases args; simp_all
  obtain ⟨rfl, rfl⟩ := trodVars_none hV
  obtain ⟨a0, rfl, rfl, rfl, w0⟩ := open_int Try.underlying5 (hval 0 5 v0 rfl rfl) h0
  have W0 := w0
  obtain ⟨n0, hn0, b0⟩ := nat_of rfl W0
  subst hn0
  obtain ⟨A1, len1, cap1, rfl⟩ := okWide_slice Try.underlying65 (hval 1 65 v1 rfl rfl)
  have k1 := h1
  have lt1 : ∀ x ∈ p1, x.block < W.heap.size := by obtain ⟨m, hm⟩ := k1; exact DataW.trod_lt m _ _ _ hm
  obtain ⟨R1, hl1, hb1, hr1, hc1, hm1, hs1⟩ := open_picks Try.underlying65 Try.underlying70 (by kernel_rfl) (by kernel_rfl) (by kernel_rfl) Try.underlying3 Try.underlying5 Try.underlying68 Try.underlying5 (by kernel_rfl) Try.underlying2 h1
  have z1 : cap1 * Try.prog.bytesOf 70 ≤ 140737488351232 := reach_of hsz (j := 1) rfl rfl Try.underlying65 hs1
  rw [show Try.prog.bytesOf 70 = 48 by kernel_rfl] at z1
  clear hA0 hval0
  refine (shardFree_walk W n0 (by simpa [IntKind.bits] using b0) A1 len1 cap1 R1 hl1 hb1 hr1 hc1 (by omega)).mono fun e W' ⟨he, bel⟩ => ?_
  subst he
  exact ⟨_, rfl, _, _, _, [], _, [], hW', trodAll_mk1 (shut_bool Try.underlying4 _), (trodAll_cons_mk (shut_int Try.underlying5 w0) (trodAll_cons_mk (Below.trod laidOut (by kernel_rfl) (of_decide_eq_true (by kernel_rfl)) k1 bel lt1) trodAll_mk0)), rfl, Below.frame bel _, fun h => by cases h⟩

theorem over : Rows.shardFreeRow.holds Try.pinned (OpenSpec.ofChange Rows.shardFreeSpec) :=
  OpenClaim.holds_of_wide 8 Try.f8 rfl rfl rfl rfl rfl rfl rfl ⟨rfl, rfl, rfl, rfl, rfl⟩ rfl rfl rfl rfl rfl (by kernel_rfl) Try.func8 (by kernel_rfl)
    (of_decide_eq_true (by kernel_rfl)) (by unfold Func.isWrapper; first | (rw [if_pos (by decide +kernel)]; kernel_rfl) | (rw [if_neg (by decide +kernel)]; exact ⟨rfl, rfl⟩))
    (fun os started H enc _ => lifted os started H enc)

theorem proved : Rows.ShardFreeSaid := over
#print axioms proved
end Go.Proofs.Ytlgggeeflomelaa.shardFreeProof
