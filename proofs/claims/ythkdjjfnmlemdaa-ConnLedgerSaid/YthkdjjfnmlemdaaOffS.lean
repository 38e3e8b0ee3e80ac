/- Slices of elements of several cells that may begin in the middle of their row: read, cut, appended to. -/
import Derived.Test.YthkdjjfnmlemdaaGb
import Derived.Deep.AppendSrc
namespace Go.Proofs.Ythkdjjfnmlemdaa
open Go.RowKit

/-- many cells are stored -/
theorem setCells_blk {b : Nat} {t : TypeId} : ∀ (ys : List Value) (w : World) (k : Nat) (cs : Array Value), w.heap[b]? = some (.cells cs t (0, 0)) → k + ys.length ≤ cs.size →
    ∃ cs', (w.setCells b k ys).heap[b]? = some (.cells cs' t (0, 0)) ∧ cs'.size = cs.size ∧ (∀ j, j < ys.length → cs'[k + j]? = ys[j]?) ∧ (∀ i, i < k ∨ k + ys.length ≤ i → cs'[i]? = cs[i]?) ∧ GB w (w.setCells b k ys) (· = b)
  | [], w, k, cs, h, _ => ⟨cs, h, rfl, fun j hj => absurd hj (Nat.not_lt_zero j), fun _ _ => rfl, GB.refl w _⟩
  | y :: ys, w, k, cs, h, hk => by
    simp only [List.length_cons] at hk
    obtain ⟨cs', h1, h2, h3, h4, h5⟩ := setCells_blk ys (w.setCell ⟨b, k, none⟩ y) (k + 1) _ (blk_set h k y) (by simpa using (by omega : k + 1 + ys.length ≤ cs.size))
    refine ⟨cs', h1, by simpa using h2, fun j hj => ?_, fun i hi => ?_, ((GB.refl w (· = b)).set b k y (.inl rfl)).trans h5 (fun i e => .inl e)⟩
    · cases j with
      | zero =>
        rw [Nat.add_zero, h4 k (.inl (by omega)), Array.getElem?_setIfInBounds_self_of_lt (by omega)]
        rfl
      | succ j =>
        rw [show k + (j + 1) = k + 1 + j by omega, h3 j (by simp only [List.length_cons] at hj; omega)]
        rfl
    · simp only [List.length_cons] at hi
      rw [h4 i (by omega), Array.getElem?_setIfInBounds_ne (by omega)]
/-- a slice of these values, s cells an element; ob: the block it lies in, if it has room for any -/
def OffS (w : World) (s : Nat) (ob : Option Nat) (v : Value) (n : Nat) (xs : List Value) : Prop :=
  ∃ (ao : Option Addr) (cap : Nat), v = .slice ao n cap ∧ n ≤ cap ∧ cap ≤ maxLen ∧ xs.length = n * s ∧
    ((cap = 0 ∧ ob = none) ∨ ∃ b off cs t, ob = some b ∧ ao = some ⟨b, off, none⟩ ∧ w.heap[b]? = some (.cells cs t (0, 0)) ∧ off + cap * s ≤ cs.size ∧ ∀ j u, xs[j]? = some u → cs[off + j]? = some u)
theorem OffS.gb {w w' : World} {S : Nat → Prop} {s : Nat} {ob : Option Nat} {v : Value} {n : Nat} {xs : List Value} (h : OffS w s ob v n xs) (g : GB w w' S) (hs : ∀ b, ob = some b → ¬ S b) : OffS w' s ob v n xs := by
  obtain ⟨ao, cap, h1, h2, h3, h4, h5⟩ := h
  refine ⟨ao, cap, h1, h2, h3, h4, h5.imp id ?_⟩
  rintro ⟨b, off, cs, t, e1, e2, e3, e4, e5⟩
  exact ⟨b, off, cs, t, e1, e2, g.blk e3 (hs b e1), e4, e5⟩
theorem OffS.ext {w w' : World} {s : Nat} {ob : Option Nat} {v : Value} {n : Nat} {xs : List Value} (h : OffS w s ob v n xs) (x : Ext w w') : OffS w' s ob v n xs := h.gb (GB.of_ext (fun _ => False) x) (fun _ _ => id)
theorem OffS.lt {w : World} {s : Nat} {ob : Option Nat} {v : Value} {n : Nat} {xs : List Value} (h : OffS w s ob v n xs) : ∀ b, ob = some b → b < w.heap.size := by
  obtain ⟨ao, cap, h1, h2, h3, h4, h5⟩ := h
  rcases h5 with ⟨_, e⟩ | ⟨b, off, cs, t, e1, _, e3, _⟩
  · intro b e'; rw [e] at e'; cases e'
  · intro b' e'; rw [e1] at e'; injection e' with e'; rw [← e']; exact blk_lt e3
theorem offS_nil (w : World) (s : Nat) : OffS w s none (.slice none 0 0) 0 [] := ⟨none, 0, rfl, Nat.le_refl _, Nat.zero_le _, by simp, .inl ⟨rfl, rfl⟩⟩
theorem OffS.shape {w : World} {s : Nat} {ob : Option Nat} {v : Value} {n : Nat} {xs : List Value} (h : OffS w s ob v n xs) : ∃ ao cap, v = .slice ao n cap ∧ n ≤ cap ∧ cap ≤ maxLen ∧ Rd w ao xs := by
  obtain ⟨ao, cap, h1, h2, h3, h4, h5⟩ := h
  refine ⟨ao, cap, h1, h2, h3, fun hne => ?_⟩
  rcases h5 with ⟨e0, _⟩ | ⟨b, off, cs, t, e1, e2, e3, e4, e5⟩
  · obtain rfl : n = 0 := by omega
    rw [Nat.zero_mul] at h4
    exact absurd (List.eq_nil_of_length_eq_zero h4) hne
  · exact ⟨b, off, e2, fun j u hu => (blk_cell e3 _).trans (e5 j u hu)⟩
theorem OffS.rd {w : World} {s : Nat} {ob : Option Nat} {ao : Option Addr} {n cap : Nat} {xs : List Value} (h : OffS w s ob (.slice ao n cap) n xs) : Rd w ao xs := by
  obtain ⟨ao', cap', h1, _, _, h4⟩ := h.shape
  injection h1 with h1
  rw [h1]
  exact h4
theorem OffS.drop {P : Program} {t e : TypeId} {s : Nat} (ht : P.underlying t = some (.slice e)) (hz : ∀ u : World, (sizeOf e).run P u = .ok s u) {w : World} {ob : Option Nat} {ao : Option Addr} {n cap : Nat} {xs : List Value} (h : OffS w s ob (.slice ao n cap) n xs) (k : Nat) (hk : k ≤ n) {ki : Int} (hki : ki = (k : Int)) :
    ∃ v' ob', (∀ u : World, (Instr.slice t (.slice ao n cap) (some (.int .i64 ki)) none none).run P u = .ok v' u) ∧ OffS w s ob' v' (n - k) (xs.drop (k * s)) ∧ ∀ b, ob' = some b → ob = some b := by
  obtain ⟨ao', cap', h1, h2, h3, h4, h5⟩ := h
  injection h1 with h1 _ h1'
  subst h1 h1'
  subst hki
  have he : P.elem t = e := by simp [Program.elem, ht]
  have hrun : ∀ u : World, (Instr.slice t (.slice ao n cap) (some (.int .i64 (k : Int))) none none).run P u = .ok (.slice (if cap = k then ao else ao.map (·.add (k * s))) (n - k) (cap - k)) u := fun u => by
    rw [run_slice_l (P := P) u t ao n cap (by rw [he]; exact ht) .i64 (k : Int) (by omega) (by omega), he, hz]
    simp only [Result.andThen, sliced, Int.toNat_natCast]
  have hlen : (xs.drop (k * s)).length = (n - k) * s := by rw [List.length_drop, h4, Nat.sub_mul]
  by_cases hck : cap = k
  · refine ⟨_, none, hrun, ⟨_, cap - k, rfl, by omega, by omega, hlen, .inl ⟨by omega, rfl⟩⟩, fun b e => by cases e⟩
  · rcases h5 with ⟨e0, _⟩ | ⟨b, off, cs, tt, e1, e2, e3, e4, e5⟩
    · omega
    · refine ⟨_, some b, hrun, ⟨_, cap - k, rfl, by omega, by omega, hlen, .inr ⟨b, off + k * s, cs, tt, rfl, by rw [if_neg hck, e2]; simp [Addr.add_lit], e3, ?_, fun j u hu => ?_⟩⟩, fun b' e => by rw [e1]; exact e⟩
      · have : k * s + (cap - k) * s = cap * s := by rw [← Nat.add_mul]; congr 1; omega
        omega
      · rw [Nat.add_assoc]
        exact e5 (k * s + j) u (by rw [← hu, List.getElem?_drop])
/-- one element more -/
theorem run_offS {P : Program} (w : World) (t ty e : TypeId) (i : TypeInfo) (z : Value) (ht : P.underlying t = some (.slice e)) (hi : P.info? e = some i) (hz : i.zero = some z) (hzs : z.cells.size = i.size) (hb : i.bytes ≤ 1000)
    {ob : Option Nat} {v : Value} {n : Nat} {xs : List Value} (h : OffS w i.size ob v n xs) (hn : n ≤ 1000000) (a : Addr) (c : Nat) (news : List Value) (hl : news.length = i.size) (hx : ∀ j u, news[j]? = some u → w.cell? (a.add j) = some u) (hx1 : ∀ u ∈ news, u.oneCell' = true) :
    ∃ v' w' ob', (Builtin.append_ #[t, t] ty #[v, .slice (some a) 1 c]).run P w = .ok v' w' ∧ OffS w' i.size ob' v' (n + 1) (xs ++ news) ∧ GB w w' (fun b => ob = some b) ∧ (ob' = ob ∨ ob' = some w.heap.size) := by
  obtain ⟨ao, cap, rfl, h2, h3, h4, h5⟩ := h
  have hsrc : Src P i.size t (.slice (some a) 1 c) 1 news w := Src.ofSlice (w := w) ht a 1 c news (by rw [Nat.one_mul]; exact hl) hx hx1
  have hnm : (n + 1) * i.size = n * i.size + i.size := by rw [Nat.add_mul, Nat.one_mul]
  by_cases hroom : n + 1 ≤ cap
  · rcases h5 with ⟨e0, _⟩ | ⟨b, off, cs, tt, e1, e2, e3, e4, e5⟩
    · omega
    · subst e2
      have hcm : (n + 1) * i.size ≤ cap * i.size := Nat.mul_le_mul_right _ hroom
      have hrun := run_append_room_src (P := P) w t t ty e i ht hi b off n cap (.slice (some a) 1 c) 1 news hsrc hroom (fun j hj => by
        rw [blk_cell e3, Array.getElem?_eq_getElem (by omega)]
        rfl) (fun j hj => blk_frozen e3 _)
      obtain ⟨cs', k1, k2, k3, k4, k5⟩ := setCells_blk (b := b) news w (off + n * i.size) cs e3 (by omega)
      refine ⟨_, _, ob, hrun, ?_, k5.more (fun i _ e => e ▸ e1), .inl rfl⟩
      refine ⟨_, cap, rfl, hroom, h3, by rw [List.length_append, h4, hl, hnm], .inr ⟨b, off, cs', tt, e1, rfl, k1, by omega, fun j u hu => ?_⟩⟩
      by_cases hj : j < n * i.size
      · rw [List.getElem?_append_left (by omega)] at hu
        rw [k4 _ (.inl (by omega))]
        exact e5 j u hu
      · rw [List.getElem?_append_right (by omega), h4] at hu
        have hjl := (List.getElem?_eq_some_iff.1 hu).1
        have := k3 (j - n * i.size) hjl
        rw [show off + n * i.size + (j - n * i.size) = off + j by omega] at this
        rw [this]
        exact hu
  · have hold : (Builtin.firstCells i.size n (.slice ao n cap)).run P w.drew = .ok xs.toArray w.drew := by
      rcases h5 with ⟨e0, _⟩ | ⟨b, off, cs, tt, e1, e2, e3, e4, e5⟩
      · obtain rfl : n = 0 := by omega
        rw [Nat.zero_mul] at h4
        obtain rfl : xs = [] := List.eq_nil_of_length_eq_zero h4
        cases ao with
        | none => exact run_firstCells_none w.drew i.size 0 0 cap
        | some a' => exact run_firstCells_some w.drew i.size 0 a' 0 cap [] (by simp) (by intro _ _ h'; simp at h')
      · subst e2
        refine run_firstCells_some w.drew i.size n ⟨b, off, none⟩ n cap xs h4 (fun j u hu => ?_)
        rw [Addr.add_lit]
        exact (blk_cell e3 _).trans (e5 j u hu)
    have hg : cap < n + 1 := by omega
    have hrun := run_append_grow_src (P := P) w t t ty e i z ht hi hz ao n cap xs hold (.slice (some a) 1 c) 1 news hsrc hg (by omega) (growslice_fits hg (Nat.le_trans (Nat.mul_le_mul (show n + 1 ≤ 1000001 by omega) hb) (by decide)))
    have hge := grownCap_ge w (n + 1) cap e
    have hcm := grownCap_le_maxLen w (n + 1) cap e (by unfold maxLen; omega)
    obtain ⟨GC, hGC⟩ : ∃ GC, grownCap w (n + 1) cap e = GC := ⟨_, rfl⟩
    rw [hGC] at hrun hge hcm
    refine ⟨_, _, some w.heap.size, hrun, ⟨_, _, rfl, hge, hcm, by rw [List.length_append, h4, hl, hnm], .inr ⟨w.heap.size, 0, _, e, rfl, rfl, blk_new w.drew _, ?_, fun j u hu => ?_⟩⟩, ((GB.refl w _).drew).alloc _, .inr rfl⟩
    · rw [Array.size_append, size_zeroCells, hzs, List.size_toArray, List.length_append, h4, hl]
      have : (GC - (n + 1)) * i.size + (n + 1) * i.size = GC * i.size := by rw [← Nat.add_mul]; congr 1; omega
      omega
    · rw [Nat.zero_add, Array.getElem?_append_left (by have := (List.getElem?_eq_some_iff.1 hu).1; simpa using this), List.getElem?_toArray]
      exact hu
end Go.Proofs.Ythkdjjfnmlemdaa
