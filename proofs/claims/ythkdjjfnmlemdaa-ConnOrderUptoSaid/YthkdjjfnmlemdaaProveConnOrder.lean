/-
  'ConnOrder': for every input of bulk at most 1048576 the statement's function answers true, and what came in reads behind the call as it did before it.
  No condition of its own: the form's own and the bound on the bulk.
-/
import Derived.Test.YthkdjjfnmlemdaaRows
import Derived.Test.YthkdjjfnmlemdaaLawConnOrder
import Derived.Test.YthkdjjfnmlemdaaBConnOrder6
import Derived.ProofKit
import Derived.OpenShut
import Derived.ShutString
import Derived.ChangeOld
import Derived.JoinedCond
import Derived.SizedLaws
namespace Go.Proofs.Ythkdjjfnmlemdaa.connOrderProof
open Go.ChangeShapes Go.WideShapes Go.ChangeAt Go.RowKit
open Go.ChangeMaps (open_string shut_string)
set_option linter.unusedVariables false

theorem own : ownKnob Try.prog.godebug = none := by kernel_rfl
theorem laidOut : laidOutB Try.prog = true := by kernel_rfl

theorem dbound {H : Type} {l : List (DataW H)} (hk : Rows.uptoSmall H l = true) : Rows.uptoBulkAll l ≤ 1048576 := of_decide_eq_true hk
theorem one_le {H : Type} (d : DataW H) : 1 ≤ Rows.uptoBulk d := by
  cases d with
  | lit l => cases l <;> simp [Rows.uptoBulk]
  | _ => simp [Rows.uptoBulk]
theorem len_le {H : Type} (l : List (DataW H)) : l.length ≤ Rows.uptoBulkAll l := by
  induction l with
  | nil => simp [Rows.uptoBulkAll]
  | cons x r ih => have := one_le x; simp only [Rows.uptoBulkAll, List.length_cons]; omega
theorem part_le {H : Type} {l : List (DataW H)} {j : Nat} {d : DataW H} (h : l[j]? = some d) : Rows.uptoBulk d ≤ Rows.uptoBulkAll l := by
  induction l generalizing j with
  | nil => simp at h
  | cons x r ih =>
    cases j with
    | zero => simp at h; subst h; simp only [Rows.uptoBulkAll]; omega
    | succ j => have := ih (j := j) (by simpa using h); simp only [Rows.uptoBulkAll]; omega
theorem bulk_of {H : Type} {l : List (DataW H)} (hk : Rows.uptoBulkAll l ≤ 1048576) {j : Nat} {d : DataW H} (h : l[j]? = some d) {len cap : Nat} (hs : SizeOf d len cap) : cap ≤ 1048576 := by
  have h1 := part_le h
  rcases hs with ⟨_, _, rfl⟩ | ⟨es, sp, rfl, _, hc⟩
  · omega
  · have h2 := len_le es
    have h3 := len_le sp
    simp only [Rows.uptoBulk] at h1
    omega
theorem bulk_str {H : Type} {l : List (DataW H)} (hk : Rows.uptoBulkAll l ≤ 1048576) {j : Nat} {bytes : List UInt8} (h : l[j]? = some (.lit (.string bytes))) : bytes.length ≤ 1048576 := by
  have h1 := part_le h
  simp only [Rows.uptoBulk] at h1
  omega

set_option maxRecDepth 100000 in
theorem lifted (os : Os) (started : os.Started) (H : Type) (enc : TypeId × Value → H) (F : Stop.Interp) :
    ReturnsInHanded {} Try.checked os 11 .any ((Rows.OpenSpec.upto Rows.connOrderSpec).pre6 enc Try.prog Try.f11 Rows.connOrderUptoRow.domain false) (((Rows.OpenSpec.upto Rows.connOrderSpec).at F).post enc Try.prog Try.f11 false true false false) := by
  refine returnsInHanded_of_cond (C := Try.checked) (s := Rows.OpenSpec.upto Rows.connOrderSpec) (k := Rows.uptoSmall) rfl own started (by kernel_rfl) Try.func11
    (OpenSpec.witness (enc := enc) (C := Try.checked) (s := Rows.OpenSpec.upto Rows.connOrderSpec) (k := Rows.uptoSmall) rfl false ⟨#[], #[.slice none 0 0, .slice none 0 0, .slice none 0 0, .slice none 0 0], []⟩ 8 (by kernel_rfl) (by kernel_rfl) (by kernel_rfl)
      (x := ([.nil, .nil, .nil, .nil], [], [])) (by kernel_rfl) rfl (by kernel_rfl)) ?_
  intro W base args ds gs before hval0 hW _ hk _
  have hval : ∀ (j : Nat) t v, Try.f11.params[j]? = some t → args[j]? = some v → Value.okWide Try.prog W .any base t v := hval0
  have hW' := hW
  obtain ⟨p, q, hA0, hV, rfl, hfz, hnd⟩ := hW
  have hA : DataW.TrodAll enc Try.prog W 0 (fun _ => true) true Try.f11.params.toList args.toList ds p := hA0
  rw [Try.params11] at hA hval
  obtain ⟨v0, vs0, d0, ds0, p0, q0, hargs, rfl, rfl, h0, r0⟩ := trodAll_cons hA
  obtain ⟨v1, vs1, d1, ds1, p1, q1, rfl, rfl, rfl, h1, r1⟩ := trodAll_cons r0
  obtain ⟨v2, vs2, d2, ds2, p2, q2, rfl, rfl, rfl, h2, r2⟩ := trodAll_cons r1
  obtain ⟨v3, vs3, d3, ds3, p3, q3, rfl, rfl, rfl, h3, r3⟩ := trodAll_cons r2
  obtain ⟨rfl, rfl, rfl⟩ := trodAll_nil r3
  obtain rfl : args = #[v0, v1, v2, v3] := by cases args; simp_all
  obtain ⟨rfl, rfl⟩ := trodVars_none hV
  obtain ⟨A0, len0, cap0, rfl⟩ := okWide_slice Try.underlying82 (hval 0 82 v0 rfl rfl)
  have k0 := h0
  have lt0 : ∀ x ∈ p0, x.block < W.heap.size := by obtain ⟨m, hm⟩ := k0; exact DataW.trod_lt m _ _ _ hm
  obtain ⟨R0, hl0, hb0, hr0, hc0, hm0, hs0⟩ := open_calls Try.underlying82 Try.underlying63 (by kernel_rfl) (by kernel_rfl) (by kernel_rfl) Try.underlying5 Try.underlying3 Try.underlying28 Try.underlying5 (by kernel_rfl) Try.underlying2 h0
  have z0 := bulk_of (dbound hk) (j := 0) rfl hs0
  obtain ⟨A1, len1, cap1, rfl⟩ := okWide_slice Try.underlying83 (hval 1 83 v1 rfl rfl)
  have k1 := h1
  have lt1 : ∀ x ∈ p1, x.block < W.heap.size := by obtain ⟨m, hm⟩ := k1; exact DataW.trod_lt m _ _ _ hm
  obtain ⟨R1, hl1, hr1, hc1, hm1, hs1⟩ := open_reps Try.underlying83 Try.underlying74 (by kernel_rfl) (by kernel_rfl) (by kernel_rfl) Try.underlying33 Try.underlying4 Try.underlying2 Try.underlying2 Try.underlying2 Try.underlying2 h1
  have z1 := bulk_of (dbound hk) (j := 1) rfl hs1
  obtain ⟨A2, len2, cap2, rfl⟩ := okWide_slice Try.underlying28 (hval 2 28 v2 rfl rfl)
  have k2 := h2
  have lt2 : ∀ x ∈ p2, x.block < W.heap.size := by obtain ⟨m, hm⟩ := k2; exact DataW.trod_lt m _ _ _ hm
  obtain ⟨xs2, hl2, hb2, hr2, hc2, hm2, hs2⟩ := open_nats Try.underlying28 Try.underlying5 (by kernel_rfl) rfl h2
  have z2 := bulk_of (dbound hk) (j := 2) rfl hs2
  obtain ⟨A3, len3, cap3, rfl⟩ := okWide_slice Try.underlying28 (hval 3 28 v3 rfl rfl)
  have k3 := h3
  have lt3 : ∀ x ∈ p3, x.block < W.heap.size := by obtain ⟨m, hm⟩ := k3; exact DataW.trod_lt m _ _ _ hm
  obtain ⟨xs3, hl3, hb3, hr3, hc3, hm3, hs3⟩ := open_nats Try.underlying28 Try.underlying5 (by kernel_rfl) rfl h3
  have z3 := bulk_of (dbound hk) (j := 3) rfl hs3
  clear hA0
  refine (connOrder_walk W A0 len0 cap0 R0 hl0 hb0 hr0 hc0 (by omega) A1 len1 cap1 R1 hl1 hr1 hc1 (by omega) A2 len2 cap2 xs2 hl2 (by simpa [IntKind.bits] using hb2) hr2 hc2 (by omega) A3 len3 cap3 xs3 hl3 (by simpa [IntKind.bits] using hb3) hr3 hc3 (by omega)).mono fun e W' ⟨he, bel⟩ => ?_
  subst he
  exact ⟨_, rfl, _, _, _, [], _, [], hW', trodAll_mk1 (shut_bool Try.underlying4 _), (trodAll_cons_mk (Below.trod laidOut (by kernel_rfl) (of_decide_eq_true (by kernel_rfl)) k0 bel lt0) (trodAll_cons_mk (Below.trod laidOut (by kernel_rfl) (of_decide_eq_true (by kernel_rfl)) k1 bel lt1) (trodAll_cons_mk (Below.trod laidOut (by kernel_rfl) (of_decide_eq_true (by kernel_rfl)) k2 bel lt2) (trodAll_cons_mk (Below.trod laidOut (by kernel_rfl) (of_decide_eq_true (by kernel_rfl)) k3 bel lt3) trodAll_mk0)))), rfl, Below.frame bel _, fun h => by cases h⟩

theorem over : Rows.connOrderUptoRow.holds Try.pinned (Rows.OpenSpec.upto Rows.connOrderSpec) :=
  OpenClaim.holds_of_cond 11 Try.f11 rfl rfl rfl rfl rfl rfl rfl ⟨rfl, rfl, rfl, rfl, rfl⟩ rfl rfl rfl rfl rfl (by kernel_rfl) Try.func11 (by kernel_rfl)
    (of_decide_eq_true (by kernel_rfl)) (by unfold Func.isWrapper; first | (rw [if_pos (by decide +kernel)]; kernel_rfl) | (rw [if_neg (by decide +kernel)]; exact ⟨rfl, rfl⟩))
    (fun os started H enc _ F => lifted os started H enc F)

theorem proved : Rows.ConnOrderUptoSaid := over
#print axioms proved
end Go.Proofs.Ythkdjjfnmlemdaa.connOrderProof
