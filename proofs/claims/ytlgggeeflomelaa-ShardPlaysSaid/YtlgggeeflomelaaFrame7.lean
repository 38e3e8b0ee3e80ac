/- How the arguments of a statement are opened, 7: slices of structs of numbers. No program in sight. -/
import Derived.Test.YtlgggeeflomelaaFrame
import Derived.Test.YtlgggeeflomelaaRecs
import Derived.Deep.Slices
import Derived.Deep.Fields
import Derived.ChangeSame
namespace Go.Proofs.Ytlgggeeflomelaa
open Go.RowKit
open Go.ChangeShapes Go.WideShapes Go.ChangeAt Go.Deep

section
variable {H : Type} {enc : TypeId × Value → H} {P : Program} {w : World} {base : Nat} {spare : Nat → Bool} {held : Bool}
theorem open_slice_fields {t e : TypeId} {fs : Array Field} {fuel : Nat} {cs : List Value} {x : DataW H × List MemPlace} (ht : P.underlying t = some (.slice e)) (he : P.underlying e = some (.struct fs))
    (hone : oneCellFields P fs = true) (hC : P.cellsOf e = fs.size) (h : DataW.trod enc P w base spare held fuel t cs = some x) :
    (cs = [.slice none 0 0] ∧ x = (.nil, [])) ∨
    ∃ (a : Addr) (len cap m : Nat) (D : Nat → DataW H) (Pl : Nat → List MemPlace), cs = [.slice (some a) len cap] ∧ base ≤ a.block ∧ len ≤ cap ∧ cap ≤ maxLen ∧ m = (if spare a.block then cap else len) ∧
      x = (.slice ((List.range len).map D) ((List.range (m - len)).map fun j => D (len + j)), MemPlace.row a (m * fs.size) ++ (List.range m).flatMap Pl) ∧
      ∀ i, i < m → ∃ (ys : List (DataW H × List MemPlace)) (n : Nat), D i = .agg (ys.map (·.1)) ∧ Pl i = ys.flatMap (·.2) ∧ ys.length = fs.size ∧
        ∀ (j : Nat) (f : Field), fs[j]? = some f → ∃ (v : Value) (y : DataW H × List MemPlace), w.cell? (a.add (i * fs.size + j)) = some v ∧ ys[j]? = some y ∧ DataW.trod enc P w base spare held n f.type [v] = some y := by
  rcases open_slice ht h with h0 | ⟨a, len, cap, m, n, D, Pl, hcs, hb, hl, hm, hmm, hx, hi⟩
  · exact .inl h0
  · refine .inr ⟨a, len, cap, m, D, Pl, hcs, hb, hl, hm, hmm, by rw [hC] at hx; exact hx, fun i him => ?_⟩
    obtain ⟨cs', hc, ht'⟩ := hi i him
    rw [hC] at hc
    obtain ⟨ys, n', hn', hy, hlen, hyl, hf⟩ := DataW.trod_struct he ht'
    obtain ⟨_, hcl, hat⟩ := World.cells?_some hc
    simp only [Prod.mk.injEq] at hy
    refine ⟨ys, n', hy.1, hy.2, hyl, fun j f hj => ?_⟩
    obtain ⟨ho, hk⟩ := hone_of hone j f hj
    have hjl : j < fs.size := (Array.getElem?_eq_some_iff.1 hj).1
    have hcell := hat j hjl
    have hv : cs'[j]? = some (cs'[j]'(by omega)) := List.getElem?_eq_getElem (by omega)
    have h1 := hf j f hj
    rw [ho, hk] at h1
    have hone' : (cs'.drop j).take 1 = [cs'[j]'(by omega)] := by
      rw [List.drop_eq_getElem_cons (by omega)]
      rfl
    rw [hone'] at h1
    have hys : ys[j]? = some (ys[j]'(by omega)) := List.getElem?_eq_getElem (by omega)
    refine ⟨_, _, ?_, hys, h1.trans hys⟩
    rw [← Go.Deep.add_add, hcell, hv]
end
section
variable {H : Type} {enc : TypeId × Value → H} {P : Program}
theorem open_recs {t e : TypeId} {fs : Array Field} (ks : List IntKind) {W : World} {a : Option Addr} {len cap : Nat} {d : DataW H} {p : List MemPlace} (ht : P.underlying t = some (.slice e)) (he : P.underlying e = some (.struct fs))
    (hone : oneCellFields P fs = true) (hC : P.cellsOf e = fs.size) (hf : (fs.toList.map fun f => P.underlying f.type) = ks.map fun k => some (.int k))
    (h : DataW.Trod enc P W 0 (fun _ => true) true t (.slice a len cap) d p) :
    ∃ R : List (List Int), R.length = len ∧ RecsOk ks R ∧ Rd W a (R.flatMap (recVals ks)) ∧ len ≤ cap ∧ cap ≤ maxLen ∧ SizeOf d len cap := by
  have hks : ks.length = fs.size := by have := congrArg List.length hf; simpa using this.symm
  obtain ⟨fuel, hh⟩ := h
  rcases open_slice_fields ht he hone hC hh with ⟨hcs, hx⟩ | ⟨a', l, c, m, D, Pl, hcs, _, hl, hm, hmm, hx, hall⟩
  · simp [Value.cells] at hcs
    obtain ⟨rfl, rfl, rfl⟩ := hcs
    simp only [Prod.mk.injEq] at hx
    exact ⟨[], rfl, fun r hr => by simp at hr, Rd.nil _ _, Nat.le_refl _, Nat.zero_le _, .inl ⟨hx.1, rfl, rfl⟩⟩
  · simp [Value.cells] at hcs
    obtain ⟨rfl, rfl, rfl⟩ := hcs
    simp only [Prod.mk.injEq] at hx
    simp only [if_true] at hmm
    subst hmm
    have hz : ∀ i, ∀ j, ∃ z : Int, i < len → ∀ k, ks[j]? = some k → W.cell? (a'.add (i * fs.size + j)) = some (.int k z) ∧ (Lit.int k z).wf = true := by
      intro i j
      by_cases hij : i < len ∧ j < fs.size
      · obtain ⟨ys, n, _, _, _, hfj⟩ := hall i (by omega)
        obtain ⟨f, hfq⟩ : ∃ f, fs[j]? = some f := ⟨_, Array.getElem?_eq_getElem hij.2⟩
        obtain ⟨v, y, h1, h2, h3⟩ := hfj j f hfq
        obtain ⟨k, hk⟩ : ∃ k, ks[j]? = some k := ⟨_, List.getElem?_eq_getElem (by omega)⟩
        have hu : P.underlying f.type = some (.int k) := by
          have := congrArg (fun l => l[j]?) hf
          simp [hfq, hk] at this
          exact this
        obtain ⟨z, hz, _, hw⟩ := DataW.trod_int hu h3
        injection hz with hz _
        subst hz
        exact ⟨z, fun _ k' hk' => by rw [hk] at hk'; injection hk' with hk'; subst hk'; exact ⟨h1, hw⟩⟩
      · refine ⟨0, fun hi k hk => absurd ⟨hi, ?_⟩ hij⟩
        have := (List.getElem?_eq_some_iff.1 hk).1
        omega
    obtain ⟨Z, hZ⟩ := Classical.axiomOfChoice (fun i => Classical.axiomOfChoice (hz i))
    have hrow : ∀ i j z, ((List.range fs.size).map (Z i))[j]? = some z → z = Z i j := fun i j z h => by
      rw [List.getElem?_map] at h
      cases hj : (List.range fs.size)[j]? with
      | none => rw [hj] at h; cases h
      | some q =>
        rw [hj] at h
        injection h with h
        rw [← h]
        congr 1
        have := List.getElem?_eq_some_iff.1 hj
        obtain ⟨h1, h2⟩ := this
        simpa using h2.symm
    have hok : RecsOk ks ((List.range len).map fun i => (List.range fs.size).map (Z i)) := by
      intro r hr
      obtain ⟨i, hi, rfl⟩ := List.mem_map.1 hr
      refine ⟨by simp [hks], fun j k z hk hzj => ?_⟩
      rw [hrow i j z hzj]
      exact (hZ i j (List.mem_range.1 hi) k hk).2
    refine ⟨(List.range len).map fun i => (List.range fs.size).map (Z i), by simp, hok, ?_, hl, hm, .inr ⟨_, _, hx.1, by simp, by simp; omega⟩⟩
    refine rd_of_cells fun q u hu => ?_
    obtain ⟨i, j, r, rfl, hj, hi, hu⟩ := flat_at (recVals ks) ks.length _ (fun r hr => recVals_len (hok r hr).1) q u hu
    have hil : i < len := by have := (List.getElem?_eq_some_iff.1 hi).1; simpa using this
    have hr : r = (List.range fs.size).map (Z i) := by
      rw [List.getElem?_map, List.getElem?_range hil] at hi
      injection hi with hi
      exact hi.symm
    subst hr
    obtain ⟨k, hk⟩ : ∃ k, ks[j]? = some k := ⟨_, List.getElem?_eq_getElem hj⟩
    simp only [recVals, List.getElem?_zipWith, hk] at hu
    cases hzj : ((List.range fs.size).map (Z i))[j]? with
    | none => rw [hzj] at hu; cases hu
    | some z =>
      rw [hzj] at hu
      injection hu with hu
      rw [← hu, hrow i j z hzj, hks]
      exact (hZ i j hil k hk).1
end
end Go.Proofs.Ytlgggeeflomelaa
