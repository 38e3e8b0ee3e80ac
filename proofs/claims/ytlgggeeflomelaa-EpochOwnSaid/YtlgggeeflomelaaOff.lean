/- Slices of one-cell elements that may begin in the middle of their row: read, cut, appended to. -/
import Derived.Test.YtlgggeeflomelaaGb
import Derived.Deep.AppendSrc
namespace Go.Proofs.Ytlgggeeflomelaa
open Go.RowKit

/-- a slice of these values; ob: the block it lies in, if it has room for any -/
def OffAt (w : World) (ob : Option Nat) (v : Value) (n : Nat) (xs : List Value) : Prop :=
  ∃ (ao : Option Addr) (cap : Nat), v = .slice ao n cap ∧ n ≤ cap ∧ cap ≤ maxLen ∧ xs.length = n ∧
    ((cap = 0 ∧ ob = none) ∨ ∃ b off cs t, ob = some b ∧ ao = some ⟨b, off, none⟩ ∧ w.heap[b]? = some (.cells cs t (0, 0)) ∧ off + cap ≤ cs.size ∧ ∀ j u, xs[j]? = some u → cs[off + j]? = some u)
theorem OffAt.gb {w w' : World} {S : Nat → Prop} {ob : Option Nat} {v : Value} {n : Nat} {xs : List Value} (h : OffAt w ob v n xs) (g : GB w w' S) (hs : ∀ b, ob = some b → ¬ S b) : OffAt w' ob v n xs := by
  obtain ⟨ao, cap, h1, h2, h3, h4, h5⟩ := h
  refine ⟨ao, cap, h1, h2, h3, h4, h5.imp id ?_⟩
  rintro ⟨b, off, cs, t, e1, e2, e3, e4, e5⟩
  exact ⟨b, off, cs, t, e1, e2, g.blk e3 (hs b e1), e4, e5⟩
theorem OffAt.ext {w w' : World} {ob : Option Nat} {v : Value} {n : Nat} {xs : List Value} (h : OffAt w ob v n xs) (x : Ext w w') : OffAt w' ob v n xs := h.gb (GB.of_ext (fun _ => False) x) (fun _ _ => id)
theorem OffAt.lt {w : World} {ob : Option Nat} {v : Value} {n : Nat} {xs : List Value} (h : OffAt w ob v n xs) : ∀ b, ob = some b → b < w.heap.size := by
  obtain ⟨ao, cap, h1, h2, h3, h4, h5⟩ := h
  rcases h5 with ⟨_, e⟩ | ⟨b, off, cs, t, e1, _, e3, _⟩
  · intro b e'; rw [e] at e'; cases e'
  · intro b' e'; rw [e1] at e'; injection e' with e'; rw [← e']; exact blk_lt e3
theorem off_nil (w : World) : OffAt w none (.slice none 0 0) 0 [] := ⟨none, 0, rfl, Nat.le_refl _, Nat.zero_le _, rfl, .inl ⟨rfl, rfl⟩⟩
theorem OffAt.shape {w : World} {ob : Option Nat} {v : Value} {n : Nat} {xs : List Value} (h : OffAt w ob v n xs) : ∃ ao cap, v = .slice ao n cap ∧ n ≤ cap ∧ cap ≤ maxLen ∧ Rd w ao xs := by
  obtain ⟨ao, cap, h1, h2, h3, h4, h5⟩ := h
  refine ⟨ao, cap, h1, h2, h3, fun hne => ?_⟩
  rcases h5 with ⟨e0, _⟩ | ⟨b, off, cs, t, e1, e2, e3, e4, e5⟩
  · exact absurd (List.eq_nil_of_length_eq_zero (by omega)) hne
  · exact ⟨b, off, e2, fun j u hu => (blk_cell e3 _).trans (e5 j u hu)⟩
theorem OffAt.rd {w : World} {ob : Option Nat} {ao : Option Addr} {n cap : Nat} {xs : List Value} (h : OffAt w ob (.slice ao n cap) n xs) : Rd w ao xs := by
  obtain ⟨ao', cap', h1, _, _, h4⟩ := h.shape
  injection h1 with h1 _ _
  rw [h1]
  exact h4
/-- cut at the front -/
theorem OffAt.drop {P : Program} {t e : TypeId} (ht : P.underlying t = some (.slice e)) (hz : ∀ u : World, (sizeOf e).run P u = .ok 1 u) {w : World} {ob : Option Nat} {ao : Option Addr} {n cap : Nat} {xs : List Value} (h : OffAt w ob (.slice ao n cap) n xs) (k : Nat) (hk : k ≤ n) {ki : Int} (hki : ki = (k : Int)) :
    ∃ v' ob', (∀ u : World, (Instr.slice t (.slice ao n cap) (some (.int .i64 ki)) none none).run P u = .ok v' u) ∧ OffAt w ob' v' (n - k) (xs.drop k) ∧ ∀ b, ob' = some b → ob = some b := by
  obtain ⟨ao', cap', h1, h2, h3, h4, h5⟩ := h
  injection h1 with h1 _ h1'
  subst h1 h1'
  subst hki
  have he : P.elem t = e := by simp [Program.elem, ht]
  have hrun : ∀ u : World, (Instr.slice t (.slice ao n cap) (some (.int .i64 (k : Int))) none none).run P u = .ok (.slice (if cap = k then ao else ao.map (·.add (k * 1))) (n - k) (cap - k)) u := fun u => by
    rw [run_slice_l (P := P) u t ao n cap (by rw [he]; exact ht) .i64 (k : Int) (by omega) (by omega), he, hz]
    simp only [Result.andThen, sliced, Int.toNat_natCast]
  by_cases hck : cap = k
  · refine ⟨_, none, hrun, ⟨_, cap - k, rfl, by omega, by omega, by rw [List.length_drop]; omega, .inl ⟨by omega, rfl⟩⟩, fun b e => by cases e⟩
  · rcases h5 with ⟨e0, _⟩ | ⟨b, off, cs, tt, e1, e2, e3, e4, e5⟩
    · omega
    · refine ⟨_, some b, hrun, ⟨_, cap - k, rfl, by omega, by omega, by rw [List.length_drop]; omega, .inr ⟨b, off + k, cs, tt, rfl, by rw [if_neg hck, e2]; simp [Addr.add_lit], e3, by omega, fun j u hu => ?_⟩⟩, fun b' e => by rw [e1]; exact e⟩
      rw [Nat.add_assoc]
      exact e5 (k + j) u (by rw [← hu, List.getElem?_drop])
/-- one element more -/
theorem run_off {P : Program} (w : World) (t ty e : TypeId) (i : TypeInfo) (z : Value) (ht : P.underlying t = some (.slice e)) (hi : P.info? e = some i) (hz : i.zero = some z) (hs : i.size = 1) (hzs : z.cells.size = 1) (hb : i.bytes ≤ 1000)
    {ob : Option Nat} {v : Value} {n : Nat} {xs : List Value} (h : OffAt w ob v n xs) (hn : n ≤ 1000000) (a : Addr) (c : Nat) (x : Value) (hx : w.cell? a = some x) (hxa : a.spot = none) (hx1 : x.oneCell' = true) :
    ∃ v' w' ob', (Builtin.append_ #[t, t] ty #[v, .slice (some a) 1 c]).run P w = .ok v' w' ∧ OffAt w' ob' v' (n + 1) (xs ++ [x]) ∧ GB w w' (fun b => ob = some b) ∧ (ob' = ob ∨ ob' = some w.heap.size) := by
  obtain ⟨ao, cap, rfl, h2, h3, h4, h5⟩ := h
  have hsrc : Src P i.size t (.slice (some a) 1 c) 1 [x] w := Src.ofSlice (w := w) ht a 1 c [x] (by rw [hs]; rfl) (fun j u hu => by
    match j, hu with
    | 0, hu =>
      simp at hu
      subst hu
      have : a.add 0 = a := by cases a; simp_all [Addr.add]
      rw [this]
      exact hx) (fun u hu => by simp at hu; subst hu; exact hx1)
  by_cases hroom : n + 1 ≤ cap
  · rcases h5 with ⟨e0, _⟩ | ⟨b, off, cs, tt, e1, e2, e3, e4, e5⟩
    · omega
    · subst e2
      have hrun := run_append_room_src (P := P) w t t ty e i ht hi b off n cap (.slice (some a) 1 c) 1 [x] hsrc hroom (fun j hj => by
        simp at hj
        subst hj
        rw [hs, blk_cell e3, Array.getElem?_eq_getElem (by omega)]
        rfl) (fun j hj => blk_frozen e3 _)
      refine ⟨_, _, ob, hrun, ?_, ?_, .inl rfl⟩
      · refine ⟨_, cap, rfl, hroom, h3, by simp [h4], .inr ⟨b, off, cs.setIfInBounds (off + n * i.size) x, tt, e1, rfl, blk_set e3 _ x, by simpa using e4, fun j u hu => ?_⟩⟩
        rw [hs, Nat.mul_one]
        by_cases hj : j < n
        · rw [List.getElem?_append_left (by omega)] at hu
          rw [Array.getElem?_setIfInBounds_ne (by omega)]
          exact e5 j u hu
        · rw [List.getElem?_append_right (by omega), h4] at hu
          have : j = n := by
            have := (List.getElem?_eq_some_iff.1 hu).1
            simp at this
            omega
          subst this
          rw [Nat.sub_self] at hu
          simp at hu
          subst hu
          rw [Array.getElem?_setIfInBounds_self_of_lt (by omega)]
      · exact (GB.refl w _).set b _ x (.inl e1)
  · have hold : (Builtin.firstCells i.size n (.slice ao n cap)).run P w.drew = .ok xs.toArray w.drew := by
      rcases h5 with ⟨e0, _⟩ | ⟨b, off, cs, tt, e1, e2, e3, e4, e5⟩
      · obtain rfl : n = 0 := by omega
        obtain rfl : xs = [] := List.eq_nil_of_length_eq_zero h4
        cases ao with
        | none => exact run_firstCells_none w.drew i.size 0 0 cap
        | some a' => exact run_firstCells_some w.drew i.size 0 a' 0 cap [] (by simp) (by intro _ _ h'; simp at h')
      · subst e2
        refine run_firstCells_some w.drew i.size n ⟨b, off, none⟩ n cap xs (by rw [hs, Nat.mul_one]; exact h4) (fun j u hu => ?_)
        rw [Addr.add_lit]
        exact (blk_cell e3 _).trans (e5 j u hu)
    have hg : cap < n + 1 := by omega
    have hrun := run_append_grow_src (P := P) w t t ty e i z ht hi hz ao n cap xs hold (.slice (some a) 1 c) 1 [x] hsrc hg (by omega) (growslice_fits hg (Nat.le_trans (Nat.mul_le_mul (show n + 1 ≤ 1000001 by omega) hb) (by decide)))
    have hge := grownCap_ge w (n + 1) cap e
    have hcm := grownCap_le_maxLen w (n + 1) cap e (by unfold maxLen; omega)
    refine ⟨_, _, some w.heap.size, hrun, ⟨_, _, rfl, hge, hcm, by simp [h4], .inr ⟨w.heap.size, 0, _, e, rfl, rfl, blk_new w.drew _, ?_, fun j u hu => ?_⟩⟩, ((GB.refl w _).drew).alloc _, .inr rfl⟩
    · simp [size_zeroCells, hzs, h4]
      omega
    · rw [Nat.zero_add, Array.getElem?_append_left (by have := (List.getElem?_eq_some_iff.1 hu).1; simpa using this), List.getElem?_toArray]
      exact hu
theorem wpList_off {P : Program} (w : World) {ops : Array Oper} {rest : List Oper} {o : Oper} {a : Act} {Q : Exit → Act → World → Prop} (hgd : o.guard = none) (s x : Operand) (t e : TypeId)
    (ho : o.op = .call { callee := .builtin .append, args := #[s, x], argTypes := #[t, t] }) (i : TypeInfo) (z : Value) (ht : P.underlying t = some (.slice e)) (hi : P.info? e = some i) (hz : i.zero = some z) (hs : i.size = 1) (hzs : z.cells.size = 1) (hb : i.bytes ≤ 1000)
    {ob : Option Nat} {v : Value} {n : Nat} {xs : List Value} (hv : a.eval s = v) (h : OffAt w ob v n xs) (hn : n ≤ 1000000) (ad : Addr) (c : Nat) (y : Value) (hxv : a.eval x = .slice (some ad) 1 c) (hy : w.cell? ad = some y) (hxa : ad.spot = none) (hy1 : y.oneCell' = true)
    (hK : ∀ v' w' ob', OffAt w' ob' v' (n + 1) (xs ++ [y]) → GB w w' (fun b => ob = some b) → (ob' = ob ∨ ob' = some w.heap.size) → wpList P ops Q rest (a.put o.dst v') w') : wpList P ops Q (o :: rest) a w := by
  refine wpList_plain hgd fun K hK' => ?_
  obtain ⟨v', w', ob', hrun, r1, r2, r3⟩ := run_off (P := P) w t o.type e i z ht hi hz hs hzs hb h hn ad c y hy hxa hy1
  unfold Oper.wp
  simp [execOp, ho, resolve, invoke, builtin, hv, hxv, hrun, Result.andThen]
  exact hK' _ _ (hK v' w' ob' r1 r2 r3)
end Go.Proofs.Ytlgggeeflomelaa
