/- PermScripts: appends at a step of a region that draws its order. -/
import Derived.Test.YtemnhnhpaaoccaaScrA
import Derived.Deep.RegionLaw
namespace Go.Proofs.Ytemnhnhpaaoccaa
open Go.RowKit

theorem info_sema : (Try.prog.info? 26).map (fun i => (i.zero, i.size, i.bytes)) = some (some (.agg #[.int .i64 0, .slice none 0 0]), 2, 32) := by kernel_rfl
theorem info_int : (Try.prog.info? 3).map (fun i => (i.zero, i.size, i.bytes)) = some (some (.int .i64 0), 1, 8) := by kernel_rfl
theorem step_app_sema {ops : Array Oper} {o : Oper} {a : Act} {K : Act → World → Prop} {Q : Exit → Act → World → Prop} {E : Prop} (w : World) (hgd : o.guard = none) (s x : Operand)
    (ho : o.op = .call { callee := .builtin .append, args := #[s, x], argTypes := #[49, 49] })
    (base : Nat) {B : Option Addr} {n cb : Nat} {xs : List Value} (hs : a.eval s = .slice B n cb) (hown : w.ownsRow base 26 2 (.slice B n cb) n xs)
    {A : Option Addr} {c : Nat} {y z : Value} (hx : a.eval x = .slice A 1 c) (hr : Rd w A [y, z]) (hy : y.oneCell' = true) (hz : z.oneCell' = true) (hb : n ≤ 1000) (hbase : base ≤ w.heap.size)
    (h : ∀ B' cb' w', w'.ownsRow base 26 2 (.slice B' (n + 1) cb') (n + 1) (xs ++ [y, z]) → w.grownBy w' (Value.slice B n cb).ownBlock →
      ((Value.slice B' (n + 1) cb').ownBlock = (Value.slice B n cb).ownBlock ∨ (Value.slice B' (n + 1) cb').ownBlock = some w.heap.size) → K (a.put o.dst (.slice B' (n + 1) cb')) w') :
    if Region.wanted o (yielded ops a.tmps) = true then Oper.wp Try.prog o a w K Q else E := by
  have hw : Region.wanted o (yielded ops a.tmps) = true := by simp [Region.wanted, hgd]
  rw [if_pos hw]
  obtain ⟨i0, hi, hz0, hz1, hz2⟩ := info_parts info_sema
  exact wp_append_rd w s x 49 ho base 26 Try.underlying49 hi hz0 hz1 hz2 rfl (by decide) hs hown hx (m := 1) (news := [y, z]) rfl hr (by intro u hu; simp at hu; rcases hu with rfl | rfl <;> assumption) (by unfold maxLen; omega) (by omega) hbase h
theorem step_app_int {ops : Array Oper} {o : Oper} {a : Act} {K : Act → World → Prop} {Q : Exit → Act → World → Prop} {E : Prop} (w : World) (hgd : o.guard = none) (s x : Operand)
    (ho : o.op = .call { callee := .builtin .append, args := #[s, x], argTypes := #[50, 50] })
    (base : Nat) {B : Option Addr} {n cb : Nat} {xs : List Value} (hs : a.eval s = .slice B n cb) (hown : w.ownsRow base 3 1 (.slice B n cb) n xs)
    {A : Option Addr} {c : Nat} {y : Value} (hx : a.eval x = .slice A 1 c) (hr : Rd w A [y]) (hy : y.oneCell' = true) (hb : n ≤ 1000) (hbase : base ≤ w.heap.size)
    (h : ∀ B' cb' w', w'.ownsRow base 3 1 (.slice B' (n + 1) cb') (n + 1) (xs ++ [y]) → w.grownBy w' (Value.slice B n cb).ownBlock →
      ((Value.slice B' (n + 1) cb').ownBlock = (Value.slice B n cb).ownBlock ∨ (Value.slice B' (n + 1) cb').ownBlock = some w.heap.size) → K (a.put o.dst (.slice B' (n + 1) cb')) w') :
    if Region.wanted o (yielded ops a.tmps) = true then Oper.wp Try.prog o a w K Q else E := by
  have hw : Region.wanted o (yielded ops a.tmps) = true := by simp [Region.wanted, hgd]
  rw [if_pos hw]
  obtain ⟨i0, hi, hz0, hz1, hz2⟩ := info_parts info_int
  exact wp_append_rd w s x 50 ho base 3 Try.underlying50 hi hz0 hz1 hz2 rfl (by decide) hs hown hx (m := 1) (news := [y]) rfl hr (by intro u hu; simp at hu; subst hu; exact hy) (by unfold maxLen; omega) (by omega) hbase h
/-- behind the first of two appends: the other list still stands -/
theorem app_first {W u z : World} {S : Nat → Prop} {vx vy : Value} {base sy k : Nat} {ey : TypeId} {ys : List Value} (hx : Ext W u) (g : u.grownBy z vx.ownBlock) (hS : ∀ q, vx.ownBlock = some q → S q) (oy : W.ownsRow base ey sy vy k ys) (hne : vy.ownBlock = none ∨ vy.ownBlock ≠ vx.ownBlock) :
    GB W z S ∧ z.ownsRow base ey sy vy k ys ∧ W.heap.size ≤ u.heap.size := ⟨(GB.of_ext S hx).grown g (fun q e => .inl (hS q e)), (own_ext oy hx).kept g hne, hx.size⟩
/-- behind the second one -/
theorem app_second {W u z : World} {S : Nat → Prop} {vx vy' : Value} {base sy k : Nat} {ey : TypeId} {ys : List Value} (hG : GB W u S) (g : u.grownBy z vx.ownBlock) (hS : ∀ q, vx.ownBlock = some q → S q) (oy : u.ownsRow base ey sy vy' k ys) (hne : vy'.ownBlock = none ∨ vy'.ownBlock ≠ vx.ownBlock) :
    GB W z S ∧ z.ownsRow base ey sy vy' k ys ∧ W.heap.size ≤ u.heap.size ∧ ∀ q, vy'.ownBlock = some q → q < u.heap.size := ⟨hG.grown g (fun q e => .inl (hS q e)), oy.kept g hne, hG.size, fun q e => (oy.lt q e).2⟩
/-- a block that was there, or a new one, is none of another list's -/
theorem app_ne {W : World} {vx vy vy' : Value} {N : Nat} (hN : W.heap.size ≤ N) (hlt : ∀ q, vx.ownBlock = some q → q < W.heap.size) (hne : ∀ q, vx.ownBlock = some q → vy.ownBlock ≠ some q) (h : vy'.ownBlock = vy.ownBlock ∨ vy'.ownBlock = some N) : vy'.ownBlock = none ∨ vy'.ownBlock ≠ vx.ownBlock := by
  cases hy : vy'.ownBlock with
  | none => exact .inl rfl
  | some q =>
    refine .inr fun e => ?_
    rw [hy] at h
    rcases h with h | h
    · exact hne q e.symm h.symm
    · injection h with h
      have := hlt q e.symm
      omega
theorem ext_size {w w' : World} (h : Ext w w') : w.heap.size ≤ w'.heap.size := h.size
theorem rdD {w : World} {A : Option Addr} {vs : List Value} (h : Rd w A vs) : Rd w.drew A vs := h
theorem rd_keep {u z W : World} {vx : Value} {nb : Nat} {vs : List Value} (h : Rd u (some ⟨nb, 0, none⟩) vs) (g : u.grownBy z vx.ownBlock) (hlt : ∀ q, vx.ownBlock = some q → q < W.heap.size) (hn : W.heap.size ≤ nb) : Rd z (some ⟨nb, 0, none⟩) vs :=
  h.grown g (fun a ha e => by
    injection ha with ha
    subst ha
    have := hlt _ e
    have hn' : W.heap.size ≤ nb := hn
    exact absurd this (Nat.not_lt.2 hn'))
theorem new_or {W N : Nat} {vx vx' : Value} (hN : W ≤ N) (h : vx'.ownBlock = vx.ownBlock ∨ vx'.ownBlock = some N) : ∀ q, vx'.ownBlock = some q → vx.ownBlock = some q ∨ W ≤ q := fun q e => by
  rw [e] at h
  rcases h with h | h
  · exact .inl h.symm
  · injection h with h
    exact .inr (by omega)
theorem fin_ne {N : Nat} {vb' vc vc' : Value} (h1 : vb'.ownBlock = none ∨ vb'.ownBlock ≠ vc.ownBlock) (hlt : ∀ q, vb'.ownBlock = some q → q < N) (h : vc'.ownBlock = vc.ownBlock ∨ vc'.ownBlock = some N) : ∀ q, vb'.ownBlock = some q → vc'.ownBlock ≠ some q := fun q e e2 => by
  rw [e2] at h
  rcases h with h | h
  · rcases h1 with h1 | h1
    · rw [h1] at e; cases e
    · exact h1 (e.trans h)
  · injection h with h
    have := hlt q e
    omega
/-- new memory that holds so many numbers -/
def NewL (W : World) (m : Nat) (ys : List Int) (e : Ending) (w' : World) : Prop :=
  ∃ A c, e = .returned (.slice A m c) ∧ w'.ownsRow W.heap.size 2 1 (.slice A m c) m (ivals ys) ∧ Ext W w'
theorem drop_del (W : World) (p t : Int) (A : Option Addr) (n c k : Nat) (xs : List Int) (hl : xs.length = n) (hr : Rd W A (ivals xs)) (hF : Form p xs) (ha : At xs t k) (hm : t ∈ xs) :
    Calls Try.prog 23 #[.slice A n c, .int .i64 t] W (NewL W (n - 1) (delL xs k)) := by
  have hkm := (at_mem ha hF.2.2.2).1 hm
  have hdl : (delL xs k).length = n - 1 := by rw [delL_len hkm.1, hl]
  have hn64 : n ≤ 64 := by have := hF.2.1; have := hF.2.2.1; omega
  refine (drop_any W t A n c xs hl (by omega) hr).mono ?_
  rintro e w' ⟨A', m, c', rfl, ho, hy⟩
  rw [← del_filter hF.2.2.2 hkm.1 hkm.2] at ho
  have hm1 : n - 1 = m := by have := ho.1; rw [ivals_len, hdl, Nat.mul_one] at this; exact this
  subst hm1
  exact ⟨A', c', rfl, ho, hy⟩
theorem put_ins (W : World) (t : Int) (A : Option Addr) (n c k : Nat) (xs : List Int) (hl : xs.length = n) (hn : n ≤ 1000) (hr : Rd W A (ivals xs)) (ha : At xs t k) (hm : t ∉ xs) :
    Calls Try.prog 24 #[.slice A n c, .int .i64 t] W (NewL W (n + 1) (insL xs k t)) := put_any W t A n c k xs hl hn hr ha hm
theorem own_in {W u w' : World} {A : Option Addr} {m c : Nat} {ys : List Int} (h : u.ownsRow W.heap.size 2 1 (.slice A m c) m (ivals ys)) {w0 : World} (h0 : Ext w0 W) (h1 : Ext u w') : ∀ a, A = some a → w0.heap.size ≤ a.block ∧ a.block < w'.heap.size := fun a ha =>
  ⟨Nat.le_trans h0.size (own_ge h a.block (by rw [ha]; rfl)), Nat.lt_of_lt_of_le (own_lt h a ha) h1.size⟩
end Go.Proofs.Ytemnhnhpaaoccaa
