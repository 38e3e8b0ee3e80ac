/- Rows of a call's own whose elements are of several cells: parts, copies, clearing. No program in sight. -/
import Derived.Test.YthkdjjfnmlemdaaOwnI
import Derived.Lib.SliceRun
namespace Go.Proofs.Ythkdjjfnmlemdaa
open Go.RowKit

theorem own_sub_s {w : World} {base s : Nat} {e : TypeId} {A : Option Addr} {n c : Nat} {xs : List Value} (h : w.ownsRow base e s (.slice A n c) n xs) {k : Nat} (hk : k ≤ n) : w.ownsRow base e s (.slice A k c) k (xs.take (k * s)) := by
  obtain ⟨hl, h⟩ := h
  have hks : k * s ≤ n * s := Nat.mul_le_mul_right s hk
  refine ⟨by rw [List.length_take]; omega, ?_⟩
  rcases h with ⟨h1, h2⟩ | ⟨g, cap, cur, h1, hb, hg, hnc, hcm, hcs, ht⟩
  · injection h1 with h1 h3 h4
    left
    exact ⟨by rw [h1, h4, show k = 0 by omega], by omega⟩
  · injection h1 with h1 h3 h4
    right
    refine ⟨g, cap, cur, by rw [h1, h4], hb, hg, by omega, hcm, hcs, ?_⟩
    rw [← ht, List.take_take, Nat.min_eq_left hks]
theorem own_more_s {w : World} {base s : Nat} {e : TypeId} {g n c : Nat} {xs : List Value} (h : w.ownsRow base e s (.slice (some ⟨g, 0, none⟩) n c) n xs) (hc : n < c) : ∃ us, us.length = s ∧ w.ownsRow base e s (.slice (some ⟨g, 0, none⟩) (n + 1) c) (n + 1) (xs ++ us) := by
  obtain ⟨hl, h⟩ := h
  rcases h with ⟨h1, h2⟩ | ⟨g', cap, cur, h1, hb, hg, hnc, hcm, hcs, ht⟩
  · injection h1 with h1; cases h1
  · injection h1 with h1 h3 h4
    injection h1 with h1
    injection h1 with h1
    subst h1 h4
    have hm : (n + 1) * s ≤ c * s := Nat.mul_le_mul_right s (by omega)
    rw [Nat.add_mul, Nat.one_mul] at hm
    have hsz : cur.toList.length = c * s := by simpa using hcs
    refine ⟨(cur.toList.drop (n * s)).take s, by rw [List.length_take, List.length_drop]; omega, ?_, .inr ⟨g, c, cur, rfl, hb, hg, by omega, hcm, hcs, ?_⟩⟩
    · rw [List.length_append, hl, List.length_take, List.length_drop, Nat.add_mul, Nat.one_mul]; omega
    · rw [← ht, Nat.add_mul, Nat.one_mul, List.take_add]
theorem own_put_s {base s : Nat} {e : TypeId} {g n c : Nat} : ∀ (ys : List Value) (w : World) (xs : List Value) (k : Nat), w.ownsRow base e s (.slice (some ⟨g, 0, none⟩) n c) n xs →
    (w.setCells g k ys).ownsRow base e s (.slice (some ⟨g, 0, none⟩) n c) n (putAt xs k ys) ∧ w.grownBy (w.setCells g k ys) (some g)
  | [], w, xs, k, h => ⟨h, World.grownBy.refl w _⟩
  | y :: ys, w, xs, k, h => by
    obtain ⟨h1, h2⟩ := h.stored k y
    obtain ⟨h3, h4⟩ := own_put_s ys _ _ (k + 1) h1
    exact ⟨h3, World.grown_trans h2 h4⟩
theorem own_some_s {w : World} {base s : Nat} {e : TypeId} {A : Option Addr} {n c : Nat} {xs : List Value} (h : w.ownsRow base e s (.slice A n c) n xs) (hc : 0 < c) : ∃ g, A = some ⟨g, 0, none⟩ ∧ base ≤ g ∧ g < w.heap.size := by
  rcases h.2 with ⟨h1, h2⟩ | ⟨g, cap, cur, h1, hb, hg, _⟩
  · injection h1 with h1 h3 h4; omega
  · injection h1 with h1
    exact ⟨g, h1, hb, (Array.getElem?_eq_some_iff.1 hg).1⟩
variable {P : Program}
theorem run_copy_cells_s (w : World) (dT sT ty elem : TypeId) (s : Nat) (b o dLen dCap : Nat) (a : Addr) (sLen sCap m : Nat) (cs : List Value)
    (hu : P.underlying dT = some (.slice elem)) (hs : (P.info? elem).map (·.size) = some s) (hm : m = Nat.min sLen dLen) (hn : cs.length = m * s)
    (hsrc : ∀ j v, cs[j]? = some v → w.cell? (a.add j) = some v) (hc : ∀ j, j < cs.length → (w.cell? ⟨b, o + j, none⟩).isSome = true) (hf : ∀ j, j < cs.length → w.frozen? ⟨b, o + j, none⟩ = false) (h1 : ∀ v ∈ cs, v.oneCell' = true) :
    (Builtin.copy_ #[dT, sT] ty #[.slice (some ⟨b, o, none⟩) dLen dCap, .slice (some a) sLen sCap]).run P w = .ok (goInt m) (w.setCells b o cs) := by
  have hl := run_loadCells_list (P := P) w a cs hsrc
  have hst := run_storeCells_cells (P := P) b o cs 0 w (by simpa using hc) (by simpa using hf) h1
  cases hq : P.info? elem with
  | none => simp [hq] at hs
  | some i =>
    have hi : i.size = s := by simpa [hq] using hs
    subst hm
    simp [Builtin.copy_, run_underlying hu, Builtin.lenOf, Builtin.firstCells, sizeOf, typeInfo, hq, hi, ← hn, hl, hst]
theorem run_clear_cells_s (w : World) (t e ty : TypeId) (z : Value) (zs : List Value) (ht : P.underlying t = some (.slice e)) (hv : ∀ w, (zeroValue e).run P w = .ok z w) (b o n c : Nat) (hn : 0 < n) (hz : (Builtin.zeroCells z.cells n).toList = zs) (h1 : ∀ v ∈ zs, v.oneCell' = true)
    (hc : ∀ j, j < zs.length → (w.cell? ⟨b, o + j, none⟩).isSome = true) (hf : ∀ j, j < zs.length → w.frozen? ⟨b, o + j, none⟩ = false) :
    (Builtin.clear_ #[t] ty #[.slice (some ⟨b, o, none⟩) n c]).run P w = .ok (.tuple #[]) (w.setCells b o zs) := by
  have hst := run_storeCells_cells (P := P) b o zs 0 w (by simpa using hc) (by simpa using hf) h1
  simp only [Nat.add_zero] at hst
  obtain ⟨m, rfl⟩ : ∃ m, n = m + 1 := ⟨n - 1, by omega⟩
  simp [Builtin.clear_, run_underlying ht, hv, hz, hst]
/-- elements laid in at k -/
def insF (s : Nat) (xs : List Value) (k : Nat) (news : List Value) : List Value := xs.take (k * s) ++ (news ++ xs.drop (k * s))
def delF (s : Nat) (xs : List Value) (k : Nat) : List Value := xs.take (k * s) ++ xs.drop (k * s + s)
end Go.Proofs.Ythkdjjfnmlemdaa
