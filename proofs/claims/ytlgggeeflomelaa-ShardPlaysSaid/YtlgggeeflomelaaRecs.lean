/- Rows of numbers laid one behind the other. No program in sight. -/
import Derived.Test.YtlgggeeflomelaaBase3
namespace Go.Proofs.Ytlgggeeflomelaa
open Go.RowKit

theorem flat_at {α β : Type} (f : α → List β) (n : Nat) : ∀ (L : List α), (∀ r ∈ L, (f r).length = n) → ∀ q u, (L.flatMap f)[q]? = some u → ∃ i j r, q = i * n + j ∧ j < n ∧ L[i]? = some r ∧ (f r)[j]? = some u
  | [], _, q, u, h => by simp at h
  | a :: L, hn, q, u, h => by
    rw [List.flatMap_cons] at h
    have ha := hn a (by simp)
    by_cases hq : q < n
    · rw [List.getElem?_append_left (by omega)] at h
      exact ⟨0, q, a, by omega, hq, rfl, h⟩
    · rw [List.getElem?_append_right (by omega), ha] at h
      obtain ⟨i, j, r, h1, h2, h3, h4⟩ := flat_at f n L (fun r hr => hn r (by simp [hr])) _ u h
      exact ⟨i + 1, j, r, by rw [Nat.succ_mul]; omega, h2, by simpa using h3, h4⟩
theorem flat_get {α β : Type} (f : α → List β) (n : Nat) : ∀ (L : List α), (∀ r ∈ L, (f r).length = n) → ∀ i r, L[i]? = some r → ∀ j, j < n → (L.flatMap f)[i * n + j]? = (f r)[j]?
  | [], _, i, r, h, _, _ => by simp at h
  | a :: L, hn, i, r, h, j, hj => by
    rw [List.flatMap_cons]
    have ha := hn a (by simp)
    cases i with
    | zero =>
      simp at h
      subst h
      rw [Nat.zero_mul, Nat.zero_add, List.getElem?_append_left (by omega)]
    | succ i =>
      rw [List.getElem?_append_right (by rw [Nat.succ_mul]; omega), show (i + 1) * n + j - (f a).length = i * n + j by rw [Nat.succ_mul]; omega]
      exact flat_get f n L (fun r hr => hn r (by simp [hr])) i r (by simpa using h) j hj

/-- a row of numbers as values of kinds -/
def recVals (ks : List IntKind) (r : List Int) : List Value := List.zipWith Value.int ks r
/-- rows that fit -/
def RecsOk (ks : List IntKind) (R : List (List Int)) : Prop := ∀ r ∈ R, r.length = ks.length ∧ ∀ (j : Nat) (k : IntKind) (z : Int), ks[j]? = some k → r[j]? = some z → (Lit.int k z).wf = true
theorem recVals_len {ks : List IntKind} {r : List Int} (h : r.length = ks.length) : (recVals ks r).length = ks.length := by simp [recVals, h]
theorem recs_cell {w : World} {A : Option Addr} {ks : List IntKind} {R : List (List Int)} (hr : Rd w A (R.flatMap (recVals ks))) (hk : RecsOk ks R) (hn : 0 < ks.length) {i : Nat} {r : List Int} (hi : R[i]? = some r) :
    ∃ b off, A = some ⟨b, off, none⟩ ∧ b < w.heap.size ∧ ∀ (j : Nat) (k : IntKind) (z : Int), ks[j]? = some k → r[j]? = some z → w.cell? ⟨b, off + (i * ks.length + j), none⟩ = some (.int k z) := by
  have hlen : ∀ r ∈ R, (recVals ks r).length = ks.length := fun r hr => recVals_len (hk r hr).1
  have hrl := (hk r (List.mem_of_getElem? hi)).1
  have hg : ∀ (j : Nat) (k : IntKind) (z : Int), ks[j]? = some k → r[j]? = some z → (R.flatMap (recVals ks))[i * ks.length + j]? = some (.int k z) := fun j k z h1 h2 => by
    rw [flat_get (recVals ks) ks.length R hlen i r hi j (List.getElem?_eq_some_iff.1 h1).1]
    simp [recVals, List.getElem?_zipWith, h1, h2]
  obtain ⟨k0, hk0⟩ : ∃ k0, ks[0]? = some k0 := ⟨_, List.getElem?_eq_getElem hn⟩
  obtain ⟨z0, hz0⟩ : ∃ z0, r[0]? = some z0 := ⟨_, List.getElem?_eq_getElem (by omega)⟩
  have h0 := hg 0 k0 z0 hk0 hz0
  obtain ⟨b, off, hA, hc⟩ := hr (by intro e; rw [e] at h0; simp at h0)
  exact ⟨b, off, hA, World.block_lt_of_cell? w _ (hc _ _ h0), fun j k z h1 h2 => hc _ _ (hg j k z h1 h2)⟩
end Go.Proofs.Ytlgggeeflomelaa
