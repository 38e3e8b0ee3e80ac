/-
  'FrameFeeds': for every input of bulk at most 1048576 the statement's function answers true, and what came in reads behind the call as it did before it.
  No condition of its own: the form's own and the bound on the bulk.
-/
import Derived.Test.YtkebkhgjoiiapaaRows
import Derived.Test.YtkebkhgjoiiapaaLawFrameFeeds
import Derived.Test.YtkebkhgjoiiapaaFrame2
import Derived.ProofKit
import Derived.OpenShut
import Derived.ShutString
import Derived.ChangeOld
import Derived.JoinedCond
import Derived.SizedLaws
namespace Go.Proofs.Ytkebkhgjoiiapaa.frameFeedsProof
open Go.ChangeShapes Go.WideShapes Go.ChangeAt Go.RowKit
open Go.ChangeMaps (open_string shut_string)
set_option linter.unusedVariables false

theorem own : ownKnob Try.prog.godebug = none := by kernel_rfl
theorem laidOut : laidOutB Try.prog = true := by kernel_rfl

theorem dbound {H : Type} {l : List (DataW H)} (hk : Rows.uptoSmall H l = true) : Rows.uptoBulkAll l ≤ 1048576 := of_decide_eq_true hk
theorem one_le {H : Type} (d : DataW H) : 1 ≤ Rows.uptoBulk d := by
  cases d with
  | lit l => cases l <;> simp [Rows.uptoBulk]
  | _ => simp [Rows.uptoBulk]
theorem len_le {H : Type} (l : List (DataW H)) : l.length ≤ Rows.uptoBulkAll l := by
  induction l with
  | nil => simp [Rows.uptoBulkAll]
  | cons x r ih => have := one_le x; simp only [Rows.uptoBulkAll, List.length_cons]; omega
theorem part_le {H : Type} {l : List (DataW H)} {j : Nat} {d : DataW H} (h : l[j]? = some d) : Rows.uptoBulk d ≤ Rows.uptoBulkAll l := by
  induction l generalizing j with
  | nil => simp at h
  | cons x r ih =>
    cases j with
    | zero => simp at h; subst h; simp only [Rows.uptoBulkAll]; omega
    | succ j => have := ih (j := j) (by simpa using h); simp only [Rows.uptoBulkAll]; omega
theorem bulk_of {H : Type} {l : List (DataW H)} (hk : Rows.uptoBulkAll l ≤ 1048576) {j : Nat} {d : DataW H} (h : l[j]? = some d) {len cap : Nat} (hs : SizeOf d len cap) : cap ≤ 1048576 := by
  have h1 := part_le h
  rcases hs with ⟨_, _, rfl⟩ | ⟨es, sp, rfl, _, hc⟩
  · omega
  · have h2 := len_le es
    have h3 := len_le sp
    simp only [Rows.uptoBulk] at h1
    omega
theorem bulk_str {H : Type} {l : List (DataW H)} (hk : Rows.uptoBulkAll l ≤ 1048576) {j : Nat} {bytes : List UInt8} (h : l[j]? = some (.lit (.string bytes))) : bytes.length ≤ 1048576 := by
  have h1 := part_le h
  simp only [Rows.uptoBulk] at h1
  omega
theorem bulk_mem {H : Type} {l : List (DataW H)} {d : DataW H} (h : d ∈ l) : Rows.uptoBulk d ≤ Rows.uptoBulkAll l := by
  obtain ⟨j, hj⟩ := List.getElem?_of_mem h
  exact part_le hj
theorem bulk_in {H : Type} {l : List (DataW H)} (hk : Rows.uptoBulkAll l ≤ 1048576) {j : Nat} {d : DataW H} (h : l[j]? = some d) {len : Nat} (hs : ∃ es sp di ci, d = .slice es sp ∧ di ∈ es ∧ SizeOf di len ci) : len ≤ 1048576 := by
  obtain ⟨es, sp, di, ci, rfl, hdi, hs⟩ := hs
  have h1 := part_le h
  have h2 := bulk_mem hdi
  simp only [Rows.uptoBulk] at h1
  rcases hs with ⟨_, rfl, rfl⟩ | ⟨es', sp', rfl, hl, hc⟩
  · omega
  · have h3 := len_le es'
    simp only [Rows.uptoBulk] at h2
    omega

set_option maxRecDepth 100000 in
theorem lifted (os : Os) (started : os.Started) (H : Type) (enc : TypeId × Value → H) (F : Stop.Interp) :
    ReturnsInHanded {} Try.checked os 4 .any ((Rows.OpenSpec.upto Rows.frameFeedsSpec).pre6 enc Try.prog Try.f4 Rows.frameFeedsUptoRow.domain false) (((Rows.OpenSpec.upto Rows.frameFeedsSpec).at F).post enc Try.prog Try.f4 false true false false) := by
  refine returnsInHanded_of_cond (C := Try.checked) (s := Rows.OpenSpec.upto Rows.frameFeedsSpec) (k := Rows.uptoSmall) rfl own started (by kernel_rfl) Try.func4
    (OpenSpec.witness (enc := enc) (C := Try.checked) (s := Rows.OpenSpec.upto Rows.frameFeedsSpec) (k := Rows.uptoSmall) rfl false ⟨#[], #[.slice none 0 0, .slice none 0 0], []⟩ 8 (by kernel_rfl) (by kernel_rfl) (by kernel_rfl)
      (x := ([.nil, .nil], [], [])) (by kernel_rfl) rfl (by kernel_rfl)) ?_
  intro W base args ds gs before hval0 hW _ hk _
  have hval : ∀ (j : Nat) t v, Try.f4.params[j]? = some t → args[j]? = some v → Value.okWide Try.prog W .any base t v := hval0
  have hW' := hW
  obtain ⟨p, q, hA0, hV, rfl, hfz, hnd⟩ := hW
  have hA : DataW.TrodAll enc Try.prog W 0 (fun _ => true) true Try.f4.params.toList args.toList ds p := hA0
  rw [Try.params4] at hA hval
  obtain ⟨v0, vs0, d0, ds0, p0, q0, hargs, rfl, rfl, h0, r0⟩ := trodAll_cons hA
  obtain ⟨v1, vs1, d1, ds1, p1, q1, rfl, rfl, rfl, h1, r1⟩ := trodAll_cons r0
  obtain ⟨rfl, rfl, rfl⟩ := trodAll_nil r1
  obtain rfl : args = #[v0, v1] := by cases args; simp_all
  obtain ⟨rfl, rfl⟩ := trodVars_none hV
  obtain ⟨A0, len0, cap0, rfl⟩ := okWide_slice Try.underlying26 (hval 0 26 v0 rfl rfl)
  have k0 := h0
  have lt0 : ∀ x ∈ p0, x.block < W.heap.size := by obtain ⟨m, hm⟩ := k0; exact DataW.trod_lt m _ _ _ hm
  obtain ⟨xs0, hl0, hb0, hr0, hc0, hm0, hs0, hss0⟩ := open_rows Try.underlying26 Try.underlying22 Try.underlying5 (by kernel_rfl) (by kernel_rfl) rfl h0
  have z0 := bulk_of (dbound hk) (j := 0) rfl hs0
  have zz0 := fun xs hxs => bulk_in (dbound hk) (j := 0) rfl (hss0 xs hxs)
  obtain ⟨A1, len1, cap1, rfl⟩ := okWide_slice Try.underlying33 (hval 1 33 v1 rfl rfl)
  have k1 := h1
  have lt1 : ∀ x ∈ p1, x.block < W.heap.size := by obtain ⟨m, hm⟩ := k1; exact DataW.trod_lt m _ _ _ hm
  obtain ⟨xs1, hl1, hr1, hc1, hm1, hs1⟩ := open_boolsL Try.underlying33 Try.underlying4 (by kernel_rfl) h1
  have z1 := bulk_of (dbound hk) (j := 1) rfl hs1
  clear hA0
  refine (frameFeeds_walk W A0 len0 cap0 xs0 hl0 (by simpa [IntKind.bits] using hb0) hr0 hc0 (by omega) (fun xs hxs => zz0 xs hxs) A1 len1 cap1 xs1 hl1 hr1 hc1 (by omega)).mono fun e W' ⟨he, bel⟩ => ?_
  subst he
  exact ⟨_, rfl, _, _, _, [], _, [], hW', trodAll_mk1 (shut_bool Try.underlying4 _), (trodAll_cons_mk (Below.trod laidOut (by kernel_rfl) (of_decide_eq_true (by kernel_rfl)) k0 bel lt0) (trodAll_cons_mk (Below.trod laidOut (by kernel_rfl) (of_decide_eq_true (by kernel_rfl)) k1 bel lt1) trodAll_mk0)), rfl, Below.frame bel _, fun h => by cases h⟩

theorem over : Rows.frameFeedsUptoRow.holds Try.pinned (Rows.OpenSpec.upto Rows.frameFeedsSpec) :=
  OpenClaim.holds_of_cond 4 Try.f4 rfl rfl rfl rfl rfl rfl rfl ⟨rfl, rfl, rfl, rfl, rfl⟩ rfl rfl rfl rfl rfl (by kernel_rfl) Try.func4 (by kernel_rfl)
    (of_decide_eq_true (by kernel_rfl)) (by unfold Func.isWrapper; first | (rw [if_pos (by decide +kernel)]; kernel_rfl) | (rw [if_neg (by decide +kernel)]; exact ⟨rfl, rfl⟩))
    (fun os started H enc _ F => lifted os started H enc F)

theorem proved : Rows.FrameFeedsUptoSaid := over
#print axioms proved
end Go.Proofs.Ytkebkhgjoiiapaa.frameFeedsProof
