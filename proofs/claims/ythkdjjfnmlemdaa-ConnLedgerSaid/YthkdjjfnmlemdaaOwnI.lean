/- Rows of a call's own: parts of them, numbers laid into them. No program in sight. -/
import Derived.Test.YthkdjjfnmlemdaaBase3
import Derived.Laws.IdiomCopy
import Derived.Laws.OwnMore
namespace Go.Proofs.Ythkdjjfnmlemdaa
open Go.RowKit

theorem own_sub {w : World} {base : Nat} {e : TypeId} {A : Option Addr} {n c : Nat} {xs : List Value} (h : w.ownsRow base e 1 (.slice A n c) n xs) {k : Nat} (hk : k ≤ n) : w.ownsRow base e 1 (.slice A k c) k (xs.take k) := by
  obtain ⟨hl, h⟩ := h
  refine ⟨by simp; omega, ?_⟩
  rcases h with ⟨h1, h2⟩ | ⟨g, cap, cur, h1, hb, hg, hnc, hcm, hcs, ht⟩
  · injection h1 with h1 h3 h4
    left
    exact ⟨by rw [h1, h4, show k = 0 by omega], by omega⟩
  · injection h1 with h1 h3 h4
    right
    refine ⟨g, cap, cur, by rw [h1, h4], hb, hg, by omega, hcm, hcs, ?_⟩
    rw [← ht, List.take_take]
    congr 1
    omega
theorem own_more {w : World} {base : Nat} {e : TypeId} {g n c : Nat} {xs : List Value} (h : w.ownsRow base e 1 (.slice (some ⟨g, 0, none⟩) n c) n xs) (hc : n < c) : ∃ u, w.ownsRow base e 1 (.slice (some ⟨g, 0, none⟩) (n + 1) c) (n + 1) (xs ++ [u]) := by
  obtain ⟨hl, h⟩ := h
  rcases h with ⟨h1, h2⟩ | ⟨g', cap, cur, h1, hb, hg, hnc, hcm, hcs, ht⟩
  · injection h1 with h1; cases h1
  · injection h1 with h1 h3 h4
    injection h1 with h1
    injection h1 with h1
    subst h1 h4
    have hn : n < cur.toList.length := by simp [hcs]; omega
    refine ⟨cur.toList[n], by simp; omega, .inr ⟨g, c, cur, rfl, hb, hg, by omega, hcm, hcs, ?_⟩⟩
    rw [Nat.mul_one] at ht ⊢
    rw [take_succ_of (List.getElem?_eq_getElem hn), ht]
/-- values laid one behind the other -/
def putAt (xs : List Value) : Nat → List Value → List Value
  | _, [] => xs
  | k, y :: ys => putAt (xs.set k y) (k + 1) ys
theorem putAt_eq : ∀ (ys xs : List Value) (k : Nat), k + ys.length ≤ xs.length → putAt xs k ys = xs.take k ++ (ys ++ xs.drop (k + ys.length))
  | [], xs, k, _ => by simp [putAt]
  | y :: ys, xs, k, h => by
    rw [List.length_cons] at h
    rw [putAt, putAt_eq ys (xs.set k y) (k + 1) (by simp; omega)]
    have h1 : (xs.set k y).take (k + 1) = xs.take k ++ [y] := by
      rw [take_succ_of (x := y) (by rw [List.getElem?_set_self (by omega)]), List.take_set_of_le (by omega)]
    have h2 : (xs.set k y).drop (k + 1 + ys.length) = xs.drop (k + (ys.length + 1)) := by
      rw [List.drop_set_of_lt (by omega)]
      congr 1
      omega
    rw [h1, h2]
    simp
theorem own_put {base : Nat} {e : TypeId} {g n c : Nat} : ∀ (ys : List Value) (w : World) (xs : List Value) (k : Nat), w.ownsRow base e 1 (.slice (some ⟨g, 0, none⟩) n c) n xs →
    (w.setCells g k ys).ownsRow base e 1 (.slice (some ⟨g, 0, none⟩) n c) n (putAt xs k ys) ∧ w.grownBy (w.setCells g k ys) (some g)
  | [], w, xs, k, h => ⟨h, World.grownBy.refl w _⟩
  | y :: ys, w, xs, k, h => by
    obtain ⟨h1, h2⟩ := h.stored k y
    obtain ⟨h3, h4⟩ := own_put ys _ _ (k + 1) h1
    exact ⟨h3, World.grown_trans h2 h4⟩
theorem own_some {w : World} {base : Nat} {e : TypeId} {A : Option Addr} {n c : Nat} {xs : List Value} (h : w.ownsRow base e 1 (.slice A n c) n xs) (hc : 0 < c) : ∃ g, A = some ⟨g, 0, none⟩ ∧ base ≤ g ∧ g < w.heap.size := by
  rcases h.2 with ⟨h1, h2⟩ | ⟨g, cap, cur, h1, hb, hg, _⟩
  · injection h1 with h1 h3 h4; omega
  · injection h1 with h1
    exact ⟨g, h1, hb, (Array.getElem?_eq_some_iff.1 hg).1⟩
end Go.Proofs.Ythkdjjfnmlemdaa
