/-
  'ConnNil': for every input the statement's function answers true, and what came in reads behind the call as it did before it.
  No condition of its own: the form's own.
-/
import Derived.Test.YthkdjjfnmlemdaaRows
import Derived.Test.YthkdjjfnmlemdaaLawConnNil
import Derived.Test.YthkdjjfnmlemdaaBConnNil7
import Derived.ProofKit
import Derived.OpenShut
import Derived.ShutString
import Derived.ChangeOld
import Derived.JoinedCond
import Derived.SizedLaws
namespace Go.Proofs.Ythkdjjfnmlemdaa.connNilProof
open Go.ChangeShapes Go.WideShapes Go.ChangeAt Go.RowKit
open Go.ChangeMaps (open_string shut_string)
set_option linter.unusedVariables false

theorem own : ownKnob Try.prog.godebug = none := by kernel_rfl
theorem laidOut : laidOutB Try.prog = true := by kernel_rfl

set_option maxRecDepth 100000 in
theorem lifted (os : Os) (started : os.Started) (H : Type) (enc : TypeId × Value → H) :
    ReturnsInHanded {} Try.checked os 13 .any (Rows.connNilSpec.pre6 enc Try.prog Try.f13 Rows.connNilRow.domain false) (Rows.connNilSpec.post enc Try.prog Try.f13 false true false false) := by
  refine returnsInHanded_of_change_sized (C := Try.checked) own started (by kernel_rfl) Try.func13
    (ChangeSpec.witness6 (enc := enc) (C := Try.checked) false ⟨#[], #[.agg #[.int .u8 0, .slice none 0 0, .int .i64 0, .bool false, .int .i64 0, .int .i64 0, .int .i64 0, .int .i64 0]], []⟩ 8 (by kernel_rfl) (by kernel_rfl) (by kernel_rfl) (by kernel_rfl)) ?_
  intro W base args ds gs before hval0 hW hcnd hsz _
  have hval : ∀ (j : Nat) t v, Try.f13.params[j]? = some t → args[j]? = some v → Value.okWide Try.prog W .any base t v := hval0
  have hW' := hW
  obtain ⟨p, q, hA0, hV, rfl, hfz, hnd⟩ := hW
  have hA : DataW.TrodAll enc Try.prog W 0 (fun _ => true) true Try.f13.params.toList args.toList ds p := hA0
  rw [Try.params13] at hA hval hsz
  obtain ⟨v0, vs0, d0, ds0, p0, q0, hargs, rfl, rfl, h0, r0⟩ := trodAll_cons hA
  obtain ⟨rfl, rfl, rfl⟩ := trodAll_nil r0
  obtain rfl : args = #[v0] := by cases args; simp_all
  obtain ⟨rfl, rfl⟩ := trodVars_none hV
  have k0 := h0
  have lt0 : ∀ x ∈ p0, x.block < W.heap.size := by obtain ⟨m, hm⟩ := k0; exact DataW.trod_lt m _ _ _ hm
  obtain ⟨o0, A0, len0, cap0, xs0, da0, db0, dd0, e0, g0, l0, s0, n0, m0, rfl, wo0, hl0, hb0, hr0, hc0, hm0, hs0, rfl⟩ := open_op Try.underlying97 ⟨rfl, rfl, rfl⟩ ⟨by kernel_rfl, by kernel_rfl, by kernel_rfl⟩ (by kernel_rfl) Try.underlying5 Try.underlying28 Try.underlying5 (by kernel_rfl) Try.underlying74 (by kernel_rfl) Try.underlying33 Try.underlying4 Try.underlying2 Try.underlying2 Try.underlying2 Try.underlying2 (hval 0 97 v0 rfl rfl) h0
  have z0 : cap0 * Try.prog.bytesOf 5 ≤ 140737488351232 := sized_isi hsz (j := 0) rfl rfl Try.underlying97 Try.underlying28 hs0
  rw [show Try.prog.bytesOf 5 = 1 by kernel_rfl] at z0
  clear hA0 hval0
  refine (connNil_walk W o0 wo0 A0 len0 cap0 xs0 hl0 hb0 hr0 hc0 (by omega) e0 g0 l0 s0 n0 m0).mono fun e W' ⟨he, bel⟩ => ?_
  subst he
  exact ⟨_, rfl, _, _, _, [], _, [], hW', trodAll_mk1 (shut_bool Try.underlying4 _), (trodAll_cons_mk (Below.trod laidOut (by kernel_rfl) (of_decide_eq_true (by kernel_rfl)) k0 bel lt0) trodAll_mk0), rfl, Below.frame bel _, fun h => by cases h⟩

theorem over : Rows.connNilRow.holds Try.pinned (OpenSpec.ofChange Rows.connNilSpec) :=
  OpenClaim.holds_of_wide 13 Try.f13 rfl rfl rfl rfl rfl rfl rfl ⟨rfl, rfl, rfl, rfl, rfl⟩ rfl rfl rfl rfl rfl (by kernel_rfl) Try.func13 (by kernel_rfl)
    (of_decide_eq_true (by kernel_rfl)) (by unfold Func.isWrapper; first | (rw [if_pos (by decide +kernel)]; kernel_rfl) | (rw [if_neg (by decide +kernel)]; exact ⟨rfl, rfl⟩))
    (fun os started H enc _ => lifted os started H enc)

theorem proved : Rows.ConnNilSaid := over
#print axioms proved
end Go.Proofs.Ythkdjjfnmlemdaa.connNilProof
