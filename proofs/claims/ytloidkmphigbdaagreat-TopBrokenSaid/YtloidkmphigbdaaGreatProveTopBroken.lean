/-
  'TopBroken': for every input the statement's function answers true, and what came in reads behind the call as it did before it.
  No condition of its own: the form's own.
-/
import Derived.Test.YtloidkmphigbdaaGreatRows
import Derived.Test.YtloidkmphigbdaaGreatBTopBroken11
import Derived.Test.YtloidkmphigbdaaGreatBTopBroken5
import Derived.ProofKit
import Derived.OpenShut
import Derived.ShutString
import Derived.ChangeOld
import Derived.JoinedCond
import Derived.SizedLaws
namespace Go.Proofs.YtloidkmphigbdaaGreat.topBrokenProof
open Go.ChangeShapes Go.WideShapes Go.ChangeAt Go.RowKit
open Go.ChangeMaps (open_string shut_string)
set_option linter.unusedVariables false

theorem own : ownKnob Tryz.prog.godebug = none := by kernel_rfl
theorem laidOut : laidOutB Tryz.prog = true := by kernel_rfl

set_option maxRecDepth 100000 in
theorem lifted (os : Os) (started : os.Started) (H : Type) (enc : TypeId × Value → H) :
    ReturnsInHanded {} Tryz.checked os 4 .any (Rows.topBrokenSpec.pre6 enc Tryz.prog Tryz.f4 Rows.topBrokenRow.domain false) (Rows.topBrokenSpec.post enc Tryz.prog Tryz.f4 false true false false) := by
  refine returnsInHanded_of_change_sized (C := Tryz.checked) own started (by kernel_rfl) Tryz.func4
    (ChangeSpec.witness6 (enc := enc) (C := Tryz.checked) false ⟨#[], #[.slice none 0 0, .slice none 0 0, .slice none 0 0], []⟩ 8 (by kernel_rfl) (by kernel_rfl) (by kernel_rfl) (by kernel_rfl)) ?_
  intro W base args ds gs before hval0 hW hcnd hsz _
  have hval : ∀ (j : Nat) t v, Tryz.f4.params[j]? = some t → args[j]? = some v → Value.okWide Tryz.prog W .any base t v := hval0
  have hW' := hW
  obtain ⟨p, q, hA0, hV, rfl, hfz, hnd⟩ := hW
  have hA : DataW.TrodAll enc Tryz.prog W 0 (fun _ => true) true Tryz.f4.params.toList args.toList ds p := hA0
  rw [Tryz.params4] at hA hval hsz
  obtain ⟨v0, vs0, d0, ds0, p0, q0, hargs, rfl, rfl, h0, r0⟩ := trodAll_cons hA
  obtain ⟨v1, vs1, d1, ds1, p1, q1, rfl, rfl, rfl, h1, r1⟩ := trodAll_cons r0
  obtain ⟨v2, vs2, d2, ds2, p2, q2, rfl, rfl, rfl, h2, r2⟩ := trodAll_cons r1
  obtain ⟨rfl, rfl, rfl⟩ := trodAll_nil r2
  obtain rfl : args = #[v0, v1, v2] := by cases args; simp_all
  obtain ⟨rfl, rfl⟩ := trodVars_none hV
  obtain ⟨A0, len0, cap0, rfl⟩ := okWide_slice Tryz.underlying84 (hval 0 84 v0 rfl rfl)
  have k0 := h0
  have lt0 : ∀ x ∈ p0, x.block < W.heap.size := by obtain ⟨m, hm⟩ := k0; exact DataW.trod_lt m _ _ _ hm
  obtain ⟨R0, hl0, hb0, hr0, hc0, hm0, hs0⟩ := open_calls Tryz.underlying84 Tryz.underlying34 (by kernel_rfl) (by kernel_rfl) (by kernel_rfl) Tryz.underlying5 Tryz.underlying3 Tryz.underlying32 Tryz.underlying5 (by kernel_rfl) Tryz.underlying2 h0
  have z0 : cap0 * Tryz.prog.bytesOf 34 ≤ 140737488351232 := reach_of hsz (j := 0) rfl rfl Tryz.underlying84 hs0
  rw [show Tryz.prog.bytesOf 34 = 48 by kernel_rfl] at z0
  obtain ⟨A1, len1, cap1, rfl⟩ := okWide_slice Tryz.underlying32 (hval 1 32 v1 rfl rfl)
  have k1 := h1
  have lt1 : ∀ x ∈ p1, x.block < W.heap.size := by obtain ⟨m, hm⟩ := k1; exact DataW.trod_lt m _ _ _ hm
  obtain ⟨xs1, hl1, hb1, hr1, hc1, hm1, hs1⟩ := open_nats Tryz.underlying32 Tryz.underlying5 (by kernel_rfl) rfl h1
  have z1 : cap1 * Tryz.prog.bytesOf 5 ≤ 140737488351232 := reach_of hsz (j := 1) rfl rfl Tryz.underlying32 hs1
  rw [show Tryz.prog.bytesOf 5 = 1 by kernel_rfl] at z1
  obtain ⟨A2, len2, cap2, rfl⟩ := okWide_slice Tryz.underlying32 (hval 2 32 v2 rfl rfl)
  have k2 := h2
  have lt2 : ∀ x ∈ p2, x.block < W.heap.size := by obtain ⟨m, hm⟩ := k2; exact DataW.trod_lt m _ _ _ hm
  obtain ⟨xs2, hl2, hb2, hr2, hc2, hm2, hs2⟩ := open_nats Tryz.underlying32 Tryz.underlying5 (by kernel_rfl) rfl h2
  have z2 : cap2 * Tryz.prog.bytesOf 5 ≤ 140737488351232 := reach_of hsz (j := 2) rfl rfl Tryz.underlying32 hs2
  rw [show Tryz.prog.bytesOf 5 = 1 by kernel_rfl] at z2
  clear hA0 hval0
  refine (topBroken_walk W A0 len0 cap0 R0 hl0 hb0 hr0 hc0 (by omega) A1 len1 cap1 xs1 hl1 (by simpa [IntKind.bits] using hb1) hr1 hc1 (by omega) A2 len2 cap2 xs2 hl2 (by simpa [IntKind.bits] using hb2) hr2 hc2 (by omega)).mono fun e W' ⟨he, bel⟩ => ?_
  subst he
  exact ⟨_, rfl, _, _, _, [], _, [], hW', trodAll_mk1 (shut_bool Tryz.underlying4 _), (trodAll_cons_mk (Below.trod laidOut (by kernel_rfl) (of_decide_eq_true (by kernel_rfl)) k0 bel lt0) (trodAll_cons_mk (Below.trod laidOut (by kernel_rfl) (of_decide_eq_true (by kernel_rfl)) k1 bel lt1) (trodAll_cons_mk (Below.trod laidOut (by kernel_rfl) (of_decide_eq_true (by kernel_rfl)) k2 bel lt2) trodAll_mk0))), rfl, Below.frame bel _, fun h => by cases h⟩

theorem over : Rows.topBrokenRow.holds Tryz.pinned (OpenSpec.ofChange Rows.topBrokenSpec) :=
  OpenClaim.holds_of_wide 4 Tryz.f4 rfl rfl rfl rfl rfl rfl rfl ⟨rfl, rfl, rfl, rfl, rfl⟩ rfl rfl rfl rfl rfl (by kernel_rfl) Tryz.func4 (by kernel_rfl)
    (of_decide_eq_true (by kernel_rfl)) (by unfold Func.isWrapper; first | (rw [if_pos (by decide +kernel)]; kernel_rfl) | (rw [if_neg (by decide +kernel)]; exact ⟨rfl, rfl⟩))
    (fun os started H enc _ => lifted os started H enc)

theorem proved : Rows.TopBrokenSaid := over
#print axioms proved
end Go.Proofs.YtloidkmphigbdaaGreat.topBrokenProof
