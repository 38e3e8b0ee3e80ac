/- How the arguments of a statement are opened, 2: slices of slices of numbers. No program in sight. -/
import Derived.Test.YtkebkhgjoiiapaaFrame
import Derived.Deep.Matrix
import Derived.Deep.Grids
namespace Go.Proofs.Ytkebkhgjoiiapaa
open Go.RowKit
open Go.ChangeShapes Go.WideShapes Go.ChangeAt

section
variable {H : Type} {enc : TypeId × Value → H} {P : Program}
theorem open_rows {t e q : TypeId} {k : IntKind} {W : World} {a : Option Addr} {len cap : Nat} {d : DataW H} {p : List MemPlace} (ht : P.underlying t = some (.slice e)) (he : P.underlying e = some (.slice q)) (hq : P.underlying q = some (.int k))
    (ce : P.cellsOf e = 1) (cq : P.cellsOf q = 1) (hk : unsignedB k = true) (h : DataW.Trod enc P W 0 (fun _ => true) true t (.slice a len cap) d p) :
    ∃ xss : List (List Nat), xss.length = len ∧ (∀ xs ∈ xss, ∀ x ∈ xs, x < 2 ^ k.bits) ∧
      (∃ vs : List Value, vs.length = xss.length ∧ Rd W a vs ∧ ∀ (i : Nat) (ps : List Nat), xss[i]? = some ps → ∃ (Ai : Option Addr) (ci : Nat), vs[i]? = some (Value.slice Ai ps.length ci) ∧ ps.length ≤ ci ∧ Rd W Ai (vals k ps)) ∧
      len ≤ cap ∧ cap ≤ maxLen ∧ SizeOf d len cap ∧ (∀ xs ∈ xss, ∃ es sp di ci, d = .slice es sp ∧ di ∈ es ∧ SizeOf di xs.length ci) := by
  obtain ⟨fuel, hf⟩ := h
  rcases Go.Deep.open_int_rows ht he hq ce cq hf with ⟨hcs, hx⟩ | ⟨a', l, c, A, L, C, Z, hcs, _, hl, hm, hx, hall⟩
  · simp [Value.cells] at hcs
    obtain ⟨rfl, rfl, rfl⟩ := hcs
    simp only [Prod.mk.injEq] at hx
    exact ⟨[], rfl, by simp, ⟨[], rfl, Rd.nil _ _, by simp⟩, Nat.le_refl _, Nat.zero_le _, .inl ⟨hx.1, rfl, rfl⟩, by simp⟩
  · simp [Value.cells] at hcs
    obtain ⟨rfl, rfl, rfl⟩ := hcs
    simp only [Prod.mk.injEq] at hx
    have hb : ∀ r, r < cap → ∀ z ∈ Z r, 0 ≤ z ∧ z.toNat < 2 ^ k.bits := by
      intro r hr z hz
      have := (hall r hr).2.2.2.2.1 z hz
      cases k <;> simp [unsignedB] at hk <;> simp [Lit.wf, IntKind.min, IntKind.max, IntKind.signed, IntKind.bits] at this ⊢ <;> omega
    refine ⟨(List.range len).map fun r => ((Z r).take (L r)).map Int.toNat, by simp, ?_, ⟨(List.range len).map fun r => .slice (A r) (L r) (C r), by simp, ?_, ?_⟩, hl, hm, .inr ⟨_, _, hx.1, by simp, by simp; omega⟩, ?_⟩
    · intro xs hxs x hx'
      obtain ⟨r, hr, rfl⟩ := List.mem_map.1 hxs
      obtain ⟨z, hz, rfl⟩ := List.mem_map.1 hx'
      exact (hb r (by have := List.mem_range.1 hr; omega) z (List.mem_of_mem_take hz)).2
    · refine rd_of_cells fun i u hu => ?_
      rw [List.getElem?_map] at hu
      by_cases hi : i < len
      · rw [List.getElem?_range hi] at hu
        injection hu with hu
        subst hu
        exact (hall i (by omega)).1
      · rw [List.getElem?_eq_none (by simp; omega)] at hu; cases hu
    · intro i ps hi
      rw [List.getElem?_map] at hi
      by_cases hi' : i < len
      · rw [List.getElem?_range hi'] at hi
        injection hi with hi
        obtain ⟨h1, h2, h3, h4, h5, h6, h7⟩ := hall i (by omega)
        have hlen : ps.length = L i := by rw [← hi]; simp; omega
        refine ⟨A i, C i, ?_, by omega, ?_⟩
        · rw [List.getElem?_map, List.getElem?_range hi', hlen]; rfl
        · cases hA : A i with
          | none =>
            have := h6 hA
            have : ps = [] := List.length_eq_zero_iff.1 (by omega)
            rw [this]; exact Rd.nil _ _
          | some a'' =>
            refine rd_of_cells fun j u hu => ?_
            have hu1 : j < L i := by
              have := (List.getElem?_eq_some_iff.1 hu).1
              rw [vals_len] at this; omega
            have hjz : j < (Z i).length := by omega
            have e1 : (vals k ps)[j]? = some (.int k ((Z i)[j])) := by
              rw [← hi]
              unfold vals
              rw [List.map_map, List.getElem?_map, List.getElem?_take, if_pos hu1, List.getElem?_eq_getElem hjz]
              have := (hb i (by omega) ((Z i)[j]) (List.getElem_mem hjz)).1
              simp only [Option.map_some, Function.comp, Int.toNat_of_nonneg this]
            rw [e1] at hu
            injection hu with hu
            subst hu
            have h8 := (h7 a'' hA).2 j (by omega)
            rw [h8, List.getD_eq_getElem?_getD, List.getElem?_eq_getElem hjz]
            rfl
      · rw [List.getElem?_eq_none (by simp; omega)] at hi; cases hi
    · intro xs hxs
      obtain ⟨r, hr, rfl⟩ := List.mem_map.1 hxs
      have hr' := List.mem_range.1 hr
      obtain ⟨h1, h2, h3, h4, h5, h6, h7⟩ := hall r (by omega)
      refine ⟨_, _, Go.Deep.intRow k (A r) (L r) (Z r), C r, hx.1, List.mem_map.2 ⟨r, hr, rfl⟩, ?_⟩
      have hlen : (((Z r).take (L r)).map Int.toNat).length = L r := by simp; omega
      rw [hlen]
      unfold Go.Deep.intRow
      cases hA : A r with
      | none => have := h6 hA; exact .inl ⟨rfl, by omega, this⟩
      | some a'' => exact .inr ⟨_, _, rfl, by simp [lits]; omega, by simp [lits]; omega⟩
theorem open_boolsL {t e : TypeId} {W : World} {a : Option Addr} {len cap : Nat} {d : DataW H} {p : List MemPlace} (ht : P.underlying t = some (.slice e)) (he : P.underlying e = some .bool) (hc : P.cellsOf e = 1)
    (h : DataW.Trod enc P W 0 (fun _ => true) true t (.slice a len cap) d p) :
    ∃ zs : List Bool, zs.length = len ∧ Rd W a (zs.map Value.bool) ∧ len ≤ cap ∧ cap ≤ maxLen ∧ SizeOf d len cap := by
  obtain ⟨fuel, hf⟩ := h
  rcases Go.Deep.open_bools ht he hc hf with ⟨hcs, hx⟩ | ⟨x, l, c, B, hcs, _, hl, hm, hx, hcell⟩
  · simp [Value.cells] at hcs
    obtain ⟨rfl, rfl, rfl⟩ := hcs
    simp only [Prod.mk.injEq] at hx
    exact ⟨[], rfl, Rd.nil _ _, Nat.le_refl _, Nat.zero_le _, .inl ⟨hx.1, rfl, rfl⟩⟩
  · simp [Value.cells] at hcs
    obtain ⟨rfl, rfl, rfl⟩ := hcs
    simp only [Prod.mk.injEq] at hx
    refine ⟨(List.range len).map B, by simp, ?_, hl, hm, .inr ⟨_, _, hx.1, by simp, by simp; omega⟩⟩
    refine rd_of_cells fun i u hu => ?_
    rw [List.map_map, List.getElem?_map] at hu
    by_cases hi : i < len
    · rw [List.getElem?_range hi] at hu
      injection hu with hu
      subst hu
      exact hcell i (by omega)
    · rw [List.getElem?_eq_none (by simp; omega)] at hu; cases hu
end
end Go.Proofs.Ytkebkhgjoiiapaa
