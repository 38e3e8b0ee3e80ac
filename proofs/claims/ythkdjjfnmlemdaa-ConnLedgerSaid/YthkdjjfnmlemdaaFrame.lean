/- How the arguments of a statement are opened: slices of numbers as lists. No program in sight. -/
import Derived.Test.YthkdjjfnmlemdaaBase2
import Derived.ProofKit
import Derived.OpenShut
import Derived.SizedLaws
namespace Go.Proofs.Ythkdjjfnmlemdaa
open Go.RowKit
open Go.ChangeShapes Go.WideShapes Go.ChangeAt

/-- true, and nothing that was there has turned -/
def RetTrue (w : World) (e : Ending) (w' : World) : Prop := e = .returned (.bool true) ∧ Ext w w'
theorem retTrue {w w' : World} (h : Ext w w') : RetTrue w (.returned (.bool true)) w' := ⟨rfl, h⟩

def unsignedB : IntKind → Bool
  | .u8 | .u16 | .u32 | .u64 => true
  | _ => false

section
variable {H : Type} {enc : TypeId × Value → H} {P : Program}

theorem rd_of_cells {w : World} {a : Addr} {vs : List Value} (hc : ∀ i u, vs[i]? = some u → w.cell? (a.add i) = some u) : Rd w (some a) vs := by
  intro hne
  obtain ⟨b, off, spot⟩ := a
  have h0 : ∃ u, vs[0]? = some u := by
    cases vs with
    | nil => exact absurd rfl hne
    | cons v vs => exact ⟨v, rfl⟩
  obtain ⟨u, hu⟩ := h0
  have hc0 := hc 0 u hu
  have hspot : spot = none := by simpa [Addr.add] using World.cell?_spot hc0
  subst hspot
  refine ⟨b, off, rfl, fun j u hu => ?_⟩
  have := hc j u hu
  rwa [Addr.add_lit] at this

/-- what a reading says of a slice's size -/
def SizeOf (d : DataW H) (len cap : Nat) : Prop := (d = .nil ∧ len = 0 ∧ cap = 0) ∨ ∃ es sp : List (DataW H), d = .slice es sp ∧ es.length = len ∧ es.length + sp.length = cap

theorem open_intsL {t e : TypeId} {k : IntKind} {W : World} {a : Option Addr} {len cap : Nat} {d : DataW H} {p : List MemPlace} (ht : P.underlying t = some (.slice e)) (he : P.underlying e = some (.int k)) (hc : P.cellsOf e = 1)
    (h : DataW.Trod enc P W 0 (fun _ => true) true t (.slice a len cap) d p) :
    ∃ zs : List Int, zs.length = len ∧ (∀ z ∈ zs, (Lit.int k z).wf = true) ∧ Rd W a (zs.map (Value.int k)) ∧ len ≤ cap ∧ cap ≤ maxLen ∧ SizeOf d len cap := by
  obtain ⟨fuel, hf⟩ := h
  rcases open_ints ht he hc hf with ⟨hcs, hx⟩ | ⟨x, l, c, zs, hcs, _, hl, hm, hz, hx, hcell, hwz⟩
  · simp [Value.cells] at hcs
    obtain ⟨rfl, rfl, rfl⟩ := hcs
    simp only [Prod.mk.injEq] at hx
    exact ⟨[], rfl, by simp, Rd.nil _ _, Nat.le_refl _, Nat.zero_le _, .inl ⟨hx.1, rfl, rfl⟩⟩
  · simp [Value.cells] at hcs
    obtain ⟨rfl, rfl, rfl⟩ := hcs
    simp only [Prod.mk.injEq] at hx
    simp only [if_true] at hz
    have hz : zs.length = cap := hz
    refine ⟨zs.take len, by simp; omega, fun z hz => hwz z (List.mem_of_mem_take hz), ?_, hl, hm, .inr ⟨_, _, hx.1, by simp [lits]; omega, by simp [lits]; omega⟩⟩
    refine rd_of_cells fun i u hu => ?_
    rw [List.getElem?_map] at hu
    cases hi : (zs.take len)[i]? with
    | none => rw [hi] at hu; cases hu
    | some z =>
      rw [hi] at hu
      injection hu with hu
      subst hu
      have hil := (List.getElem?_eq_some_iff.1 hi).1
      have hil' : i < zs.length := by simp at hil; omega
      rw [hcell i hil']
      rw [List.getElem?_take] at hi
      split at hi
      · rw [List.getD_eq_getElem?_getD, hi]; rfl
      · cases hi

theorem open_nats {t e : TypeId} {k : IntKind} {W : World} {a : Option Addr} {len cap : Nat} {d : DataW H} {p : List MemPlace} (ht : P.underlying t = some (.slice e)) (he : P.underlying e = some (.int k)) (hc : P.cellsOf e = 1) (hk : unsignedB k = true)
    (h : DataW.Trod enc P W 0 (fun _ => true) true t (.slice a len cap) d p) :
    ∃ xs : List Nat, xs.length = len ∧ (∀ x ∈ xs, x < 2 ^ k.bits) ∧ Rd W a (vals k xs) ∧ len ≤ cap ∧ cap ≤ maxLen ∧ SizeOf d len cap := by
  obtain ⟨zs, hl, hw, hr, h1, h2, h3⟩ := open_intsL ht he hc h
  have hb : ∀ z ∈ zs, 0 ≤ z ∧ z.toNat < 2 ^ k.bits := by
    intro z hz
    have := hw z hz
    cases k <;> simp [unsignedB] at hk <;> simp [Lit.wf, IntKind.min, IntKind.max, IntKind.signed, IntKind.bits] at this ⊢ <;> omega
  refine ⟨zs.map Int.toNat, by simpa using hl, ?_, ?_, h1, h2, h3⟩
  · intro x hx
    obtain ⟨z, hz, rfl⟩ := List.mem_map.1 hx
    exact (hb z hz).2
  · have e : vals k (zs.map Int.toNat) = zs.map (Value.int k) := by
      unfold vals
      rw [List.map_map]
      refine List.map_congr_left fun z hz => ?_
      simp only [Function.comp, Int.toNat_of_nonneg (hb z hz).1]
    rw [e]
    exact hr

theorem reach_of {ts : List TypeId} {ds : List (DataW H)} (h : (DataW.weightsEach P ts ds).all (· ≤ reachBytes) = true) {j : Nat} {t e : TypeId} {d : DataW H} {len cap : Nat} (ht : ts[j]? = some t) (hd : ds[j]? = some d) (hu : P.underlying t = some (.slice e)) (hs : SizeOf d len cap) :
    cap * P.bytesOf e ≤ 140737488351232 := by
  rcases hs with ⟨_, _, rfl⟩ | ⟨es, sp, rfl, _, hc⟩
  · omega
  · have := sized_slice h ht hd hu
    rw [hc] at this
    exact this

theorem nat_of {k : IntKind} {a : Int} (hk : unsignedB k = true) (h : (Lit.int k a).wf = true) : ∃ n : Nat, a = (n : Int) ∧ n < 2 ^ k.bits := by
  refine ⟨a.toNat, ?_, ?_⟩
  · cases k <;> simp [unsignedB] at hk <;> simp [Lit.wf, IntKind.min, IntKind.max, IntKind.signed, IntKind.bits] at h ⊢ <;> omega
  · cases k <;> simp [unsignedB] at hk <;> simp [Lit.wf, IntKind.min, IntKind.max, IntKind.signed, IntKind.bits] at h ⊢ <;> omega
theorem i64_of {a : Int} (h : (Lit.int .i64 a).wf = true) : -9223372036854775808 ≤ a ∧ a ≤ 9223372036854775807 := by
  simpa [Lit.wf, IntKind.min, IntKind.max, IntKind.signed, IntKind.bits] using h
end
end Go.Proofs.Ythkdjjfnmlemdaa
