/-
  'WireOne': for every input the statement's function answers true, and what came in reads behind the call as it did before it.
  No condition of its own: the form's own.
-/
import Derived.Test.YtkebkhgjoiiapaaRows
import Derived.Test.YtkebkhgjoiiapaaLawWireOne
import Derived.Test.YtkebkhgjoiiapaaFrame4
import Derived.ProofKit
import Derived.OpenShut
import Derived.ShutString
import Derived.ChangeOld
import Derived.JoinedCond
import Derived.SizedLaws
namespace Go.Proofs.Ytkebkhgjoiiapaa.wireOneProof
open Go.ChangeShapes Go.WideShapes Go.ChangeAt Go.RowKit
open Go.ChangeMaps (open_string shut_string)
set_option linter.unusedVariables false

theorem own : ownKnob Try.prog.godebug = none := by kernel_rfl
theorem laidOut : laidOutB Try.prog = true := by kernel_rfl

set_option maxRecDepth 100000 in
theorem lifted (os : Os) (started : os.Started) (H : Type) (enc : TypeId × Value → H) :
    ReturnsInHanded {} Try.checked os 14 .any (Rows.wireOneSpec.pre6 enc Try.prog Try.f14 Rows.wireOneRow.domain false) (Rows.wireOneSpec.post enc Try.prog Try.f14 false true false false) := by
  refine returnsInHanded_of_change_sized (C := Try.checked) own started (by kernel_rfl) Try.func14
    (ChangeSpec.witness6 (enc := enc) (C := Try.checked) false ⟨#[], #[.agg #[.int .u8 0, .int .i64 0, .slice none 0 0, .int .i64 0], .agg #[.int .u8 0, .int .i64 0, .slice none 0 0, .int .i64 0], .int .u8 0, .slice none 0 0], []⟩ 8 (by kernel_rfl) (by kernel_rfl) (by kernel_rfl) (by kernel_rfl)) ?_
  intro W base args ds gs before hval0 hW hcnd hsz _
  have hval : ∀ (j : Nat) t v, Try.f14.params[j]? = some t → args[j]? = some v → Value.okWide Try.prog W .any base t v := hval0
  have hW' := hW
  obtain ⟨p, q, hA0, hV, rfl, hfz, hnd⟩ := hW
  have hA : DataW.TrodAll enc Try.prog W 0 (fun _ => true) true Try.f14.params.toList args.toList ds p := hA0
  rw [Try.params14] at hA hval hsz
  obtain ⟨v0, vs0, d0, ds0, p0, q0, hargs, rfl, rfl, h0, r0⟩ := trodAll_cons hA
  obtain ⟨v1, vs1, d1, ds1, p1, q1, rfl, rfl, rfl, h1, r1⟩ := trodAll_cons r0
  obtain ⟨v2, vs2, d2, ds2, p2, q2, rfl, rfl, rfl, h2, r2⟩ := trodAll_cons r1
  obtain ⟨v3, vs3, d3, ds3, p3, q3, rfl, rfl, rfl, h3, r3⟩ := trodAll_cons r2
  obtain ⟨rfl, rfl, rfl⟩ := trodAll_nil r3
  obtain rfl : args = #[v0, v1, v2, v3] := by cases args; simp_all
  obtain ⟨rfl, rfl⟩ := trodVars_none hV
  have k0 := h0
  have lt0 : ∀ x ∈ p0, x.block < W.heap.size := by obtain ⟨m, hm⟩ := k0; exact DataW.trod_lt m _ _ _ hm
  obtain ⟨o0, a0, s0, A0, len0, cap0, xs0, dd0, rfl, hl0, hb0, hr0, hc0, hm0, hs0, rfl, wo0, wa0, ws0⟩ := open_call Try.underlying71 (by kernel_rfl) (by kernel_rfl) Try.underlying5 Try.underlying3 Try.underlying22 Try.underlying2 Try.underlying5 (by kernel_rfl) rfl (hval 0 71 v0 rfl rfl) h0
  have z0 : cap0 * Try.prog.bytesOf 5 ≤ 140737488351232 := sized_call hsz (j := 0) rfl rfl Try.underlying71 Try.underlying22 hs0
  rw [show Try.prog.bytesOf 5 = 1 by kernel_rfl] at z0
  have k1 := h1
  have lt1 : ∀ x ∈ p1, x.block < W.heap.size := by obtain ⟨m, hm⟩ := k1; exact DataW.trod_lt m _ _ _ hm
  obtain ⟨o1, a1, s1, A1, len1, cap1, xs1, dd1, rfl, hl1, hb1, hr1, hc1, hm1, hs1, rfl, wo1, wa1, ws1⟩ := open_call Try.underlying71 (by kernel_rfl) (by kernel_rfl) Try.underlying5 Try.underlying3 Try.underlying22 Try.underlying2 Try.underlying5 (by kernel_rfl) rfl (hval 1 71 v1 rfl rfl) h1
  have z1 : cap1 * Try.prog.bytesOf 5 ≤ 140737488351232 := sized_call hsz (j := 1) rfl rfl Try.underlying71 Try.underlying22 hs1
  rw [show Try.prog.bytesOf 5 = 1 by kernel_rfl] at z1
  obtain ⟨a2, rfl, rfl, rfl, w2⟩ := open_int Try.underlying5 (hval 2 5 v2 rfl rfl) h2
  have W2 := w2
  obtain ⟨n2, hn2, b2⟩ := nat_of rfl W2
  subst hn2
  obtain ⟨A3, len3, cap3, rfl⟩ := okWide_slice Try.underlying22 (hval 3 22 v3 rfl rfl)
  have k3 := h3
  have lt3 : ∀ x ∈ p3, x.block < W.heap.size := by obtain ⟨m, hm⟩ := k3; exact DataW.trod_lt m _ _ _ hm
  obtain ⟨xs3, hl3, hb3, hr3, hc3, hm3, hs3⟩ := open_nats Try.underlying22 Try.underlying5 (by kernel_rfl) rfl h3
  have z3 : cap3 * Try.prog.bytesOf 5 ≤ 140737488351232 := reach_of hsz (j := 3) rfl rfl Try.underlying22 hs3
  rw [show Try.prog.bytesOf 5 = 1 by kernel_rfl] at z3
  clear hA0 hval0
  refine (wireOne_walk W o0 wo0 a0 s0 A0 len0 cap0 xs0 hl0 (by simpa [IntKind.bits] using hb0) hr0 hc0 (by omega) o1 wo1 a1 s1 A1 len1 cap1 xs1 hl1 (by simpa [IntKind.bits] using hb1) hr1 hc1 (by omega) n2 (by simpa [IntKind.bits] using b2) A3 len3 cap3 xs3 hl3 (by simpa [IntKind.bits] using hb3) hr3 hc3 (by omega)).mono fun e W' ⟨he, bel⟩ => ?_
  subst he
  exact ⟨_, rfl, _, _, _, [], _, [], hW', trodAll_mk1 (shut_bool Try.underlying4 _), (trodAll_cons_mk (Below.trod laidOut (by kernel_rfl) (of_decide_eq_true (by kernel_rfl)) k0 bel lt0) (trodAll_cons_mk (Below.trod laidOut (by kernel_rfl) (of_decide_eq_true (by kernel_rfl)) k1 bel lt1) (trodAll_cons_mk (shut_int Try.underlying5 w2) (trodAll_cons_mk (Below.trod laidOut (by kernel_rfl) (of_decide_eq_true (by kernel_rfl)) k3 bel lt3) trodAll_mk0)))), rfl, Below.frame bel _, fun h => by cases h⟩

theorem over : Rows.wireOneRow.holds Try.pinned (OpenSpec.ofChange Rows.wireOneSpec) :=
  OpenClaim.holds_of_wide 14 Try.f14 rfl rfl rfl rfl rfl rfl rfl ⟨rfl, rfl, rfl, rfl, rfl⟩ rfl rfl rfl rfl rfl (by kernel_rfl) Try.func14 (by kernel_rfl)
    (of_decide_eq_true (by kernel_rfl)) (by unfold Func.isWrapper; first | (rw [if_pos (by decide +kernel)]; kernel_rfl) | (rw [if_neg (by decide +kernel)]; exact ⟨rfl, rfl⟩))
    (fun os started H enc _ => lifted os started H enc)

theorem proved : Rows.WireOneSaid := over
#print axioms proved
end Go.Proofs.Ytkebkhgjoiiapaa.wireOneProof
