/- Three rows of numbers of a call's own are appended to in one region that draws its order. -/
import Derived.Test.YtlgggeeflomelaaEpN
import Derived.Deep.RegionLaw
namespace Go.Proofs.Ytlgggeeflomelaa
open Go.RowKit

theorem info_int9 : (Try.prog.info? 3).map (fun i => (i.zero, i.size, i.bytes)) = some (some (.int .i64 0), 1, 8) := by kernel_rfl
theorem step_app_int9 {ops : Array Oper} {o : Oper} {a : Act} {K : Act → World → Prop} {Q : Exit → Act → World → Prop} {E : Prop} (w : World) (hgd : o.guard = none) (s x : Operand)
    (ho : o.op = .call { callee := .builtin .append, args := #[s, x], argTypes := #[34, 34] })
    (base : Nat) {B : Option Addr} {n cb : Nat} {xs : List Value} (hs : a.eval s = .slice B n cb) (hown : w.ownsRow base 3 1 (.slice B n cb) n xs)
    {A : Option Addr} {c : Nat} {y : Value} (hx : a.eval x = .slice A 1 c) (hr : Rd w A [y]) (hy : y.oneCell' = true) (hb : n ≤ 100000) (hbase : base ≤ w.heap.size)
    (h : ∀ B' cb' w', w'.ownsRow base 3 1 (.slice B' (n + 1) cb') (n + 1) (xs ++ [y]) → w.grownBy w' (Value.slice B n cb).ownBlock →
      ((Value.slice B' (n + 1) cb').ownBlock = (Value.slice B n cb).ownBlock ∨ (Value.slice B' (n + 1) cb').ownBlock = some w.heap.size) → K (a.put o.dst (.slice B' (n + 1) cb')) w') :
    if Region.wanted o (yielded ops a.tmps) = true then Oper.wp Try.prog o a w K Q else E := by
  have hw : Region.wanted o (yielded ops a.tmps) = true := by simp [Region.wanted, hgd]
  rw [if_pos hw]
  obtain ⟨i0, hi, hz0, hz1, hz2⟩ := info_parts info_int9
  exact wp_append_rd w s x 34 ho base 3 Try.underlying34 hi hz0 hz1 hz2 rfl (by decide) hs hown hx (m := 1) (news := [y]) rfl hr (by intro u hu; simp at hu; subst hu; exact hy) (by unfold maxLen; omega) (by omega) hbase h
/-- three rows, some one-element rows made beside them -/
structure Ap3 (W w' : World) (base : Nat) (S : Nat → Prop) (v1 v2 v3 : Value) (n1 n2 n3 : Nat) (x1 x2 x3 : List Value) (bs : List (Nat × Value)) : Prop where
  gb : GB W w' S
  o1 : w'.ownsRow base 3 1 v1 n1 x1
  o2 : w'.ownsRow base 3 1 v2 n2 x2
  o3 : w'.ownsRow base 3 1 v3 n3 x3
  d12 : ∀ q, v1.ownBlock = some q → v2.ownBlock ≠ some q
  d13 : ∀ q, v1.ownBlock = some q → v3.ownBlock ≠ some q
  d23 : ∀ q, v2.ownBlock = some q → v3.ownBlock ≠ some q
  s1 : ∀ q, v1.ownBlock = some q → S q ∨ W.heap.size ≤ q
  s2 : ∀ q, v2.ownBlock = some q → S q ∨ W.heap.size ≤ q
  s3 : ∀ q, v3.ownBlock = some q → S q ∨ W.heap.size ≤ q
  bs : ∀ p ∈ bs, Rd w' (some ⟨p.1, 0, none⟩) [p.2] ∧ p.1 < w'.heap.size ∧ W.heap.size ≤ p.1 ∧ v1.ownBlock ≠ some p.1 ∧ v2.ownBlock ≠ some p.1 ∧ v3.ownBlock ≠ some p.1
variable {W w' w'' : World} {base : Nat} {S : Nat → Prop} {v1 v2 v3 v' : Value} {n1 n2 n3 n' : Nat} {x1 x2 x3 x' : List Value} {bs : List (Nat × Value)}
theorem Ap3.drew (h : Ap3 W w' base S v1 v2 v3 n1 n2 n3 x1 x2 x3 bs) : Ap3 W w'.drew base S v1 v2 v3 n1 n2 n3 x1 x2 x3 bs := ⟨h.gb.drew, own_ext h.o1 (Ext.refl w').drew, own_ext h.o2 (Ext.refl w').drew, own_ext h.o3 (Ext.refl w').drew, h.d12, h.d13, h.d23, h.s1, h.s2, h.s3, h.bs⟩
theorem Ap3.build (h : Ap3 W w' base S v1 v2 v3 n1 n2 n3 x1 x2 x3 bs) (x : Value) {k : Nat} (hk : w'.heap.size = k) : Ap3 W (w'.alloc (.cells #[x] 3)) base S v1 v2 v3 n1 n2 n3 x1 x2 x3 ((k, x) :: bs) := by
  subst hk
  have e : Ext w' (w'.alloc (.cells #[x] 3)) := (Ext.refl w').alloc _
  have hs : (w'.alloc (.cells #[x] 3)).heap.size = w'.heap.size + 1 := by simp
  refine ⟨h.gb.ext e, own_ext h.o1 e, own_ext h.o2 e, own_ext h.o3 e, h.d12, h.d13, h.d23, h.s1, h.s2, h.s3, fun p hp => ?_⟩
  rcases List.mem_cons.1 hp with rfl | hp
  · exact ⟨rd_newk w' [x] _ rfl, by rw [hs]; exact Nat.lt_succ_self _, h.gb.size, fun e => Nat.lt_irrefl _ (h.o1.lt _ e).2, fun e => Nat.lt_irrefl _ (h.o2.lt _ e).2, fun e => Nat.lt_irrefl _ (h.o3.lt _ e).2⟩
  · obtain ⟨a1, a2, a3⟩ := h.bs p hp
    exact ⟨a1.alloc _, by rw [hs]; omega, a3⟩
theorem row_kept {k : Nat} {w' w'' : World} {v : Value} {x : Value} (h : Rd w' (some ⟨k, 0, none⟩) [x]) (g : w'.grownBy w'' v.ownBlock) (hn : v.ownBlock ≠ some k) : Rd w'' (some ⟨k, 0, none⟩) [x] :=
  h.grown g (fun a ha e => by
    injection ha with ha
    subst ha
    exact hn e)
theorem new_ne {N k : Nat} {v v' : Value} (h : v'.ownBlock = v.ownBlock ∨ v'.ownBlock = some N) (h1 : v.ownBlock ≠ some k) (h2 : k < N) : v'.ownBlock ≠ some k := fun e => by
  rcases h with h | h
  · exact h1 (h ▸ e)
  · rw [h] at e; injection e with e; omega
theorem Ap3.app1 (h : Ap3 W w' base S v1 v2 v3 n1 n2 n3 x1 x2 x3 bs) (o : w''.ownsRow base 3 1 v' n' x') (g : w'.grownBy w'' v1.ownBlock) (hb : v'.ownBlock = v1.ownBlock ∨ v'.ownBlock = some w'.heap.size) : Ap3 W w'' base S v' v2 v3 n' n2 n3 x' x2 x3 bs := by
  refine ⟨h.gb.grown g h.s1, o, h.o2.kept g ?_, h.o3.kept g ?_, fun q e => ?_, fun q e => ?_, h.d23, fun q e => ?_, h.s2, h.s3, fun p hp => ?_⟩
  · cases e : v2.ownBlock with
    | none => exact .inl rfl
    | some q => exact .inr fun e2 => h.d12 q e2.symm e
  · cases e : v3.ownBlock with
    | none => exact .inl rfl
    | some q => exact .inr fun e2 => h.d13 q e2.symm e
  · exact fun e2 => new_ne hb (fun e3 => h.d12 q e3 e2) (h.o2.lt q e2).2 e
  · exact fun e2 => new_ne hb (fun e3 => h.d13 q e3 e2) (h.o3.lt q e2).2 e
  · rcases hb with hb | hb
    · exact h.s1 q (hb ▸ e)
    · rw [hb] at e; injection e with e; exact .inr (e ▸ h.gb.size)
  · obtain ⟨a1, a2, a3, a4, a5⟩ := h.bs p hp
    exact ⟨row_kept a1 g a4, Nat.lt_of_lt_of_le a2 g.size, a3, new_ne hb a4 a2, a5⟩
theorem Ap3.app2 (h : Ap3 W w' base S v1 v2 v3 n1 n2 n3 x1 x2 x3 bs) (o : w''.ownsRow base 3 1 v' n' x') (g : w'.grownBy w'' v2.ownBlock) (hb : v'.ownBlock = v2.ownBlock ∨ v'.ownBlock = some w'.heap.size) : Ap3 W w'' base S v1 v' v3 n1 n' n3 x1 x' x3 bs := by
  refine ⟨h.gb.grown g h.s2, h.o1.kept g ?_, o, h.o3.kept g ?_, fun q e => ?_, h.d13, fun q e => ?_, h.s1, fun q e => ?_, h.s3, fun p hp => ?_⟩
  · cases e : v1.ownBlock with
    | none => exact .inl rfl
    | some q => exact .inr fun e2 => h.d12 q e e2.symm
  · cases e : v3.ownBlock with
    | none => exact .inl rfl
    | some q => exact .inr fun e2 => h.d23 q e2.symm e
  · exact new_ne hb (h.d12 q e) (h.o1.lt q e).2
  · exact fun e2 => new_ne hb (fun e3 => h.d23 q e3 e2) (h.o3.lt q e2).2 e
  · rcases hb with hb | hb
    · exact h.s2 q (hb ▸ e)
    · rw [hb] at e; injection e with e; exact .inr (e ▸ h.gb.size)
  · obtain ⟨a1, a2, a3, a4, a5, a6⟩ := h.bs p hp
    exact ⟨row_kept a1 g a5, Nat.lt_of_lt_of_le a2 g.size, a3, a4, new_ne hb a5 a2, a6⟩
theorem Ap3.app3 (h : Ap3 W w' base S v1 v2 v3 n1 n2 n3 x1 x2 x3 bs) (o : w''.ownsRow base 3 1 v' n' x') (g : w'.grownBy w'' v3.ownBlock) (hb : v'.ownBlock = v3.ownBlock ∨ v'.ownBlock = some w'.heap.size) : Ap3 W w'' base S v1 v2 v' n1 n2 n' x1 x2 x' bs := by
  refine ⟨h.gb.grown g h.s3, h.o1.kept g ?_, h.o2.kept g ?_, o, h.d12, fun q e => ?_, fun q e => ?_, h.s1, h.s2, fun q e => ?_, fun p hp => ?_⟩
  · cases e : v1.ownBlock with
    | none => exact .inl rfl
    | some q => exact .inr fun e2 => h.d13 q e e2.symm
  · cases e : v2.ownBlock with
    | none => exact .inl rfl
    | some q => exact .inr fun e2 => h.d23 q e e2.symm
  · exact new_ne hb (h.d13 q e) (h.o1.lt q e).2
  · exact new_ne hb (h.d23 q e) (h.o2.lt q e).2
  · rcases hb with hb | hb
    · exact h.s3 q (hb ▸ e)
    · rw [hb] at e; injection e with e; exact .inr (e ▸ h.gb.size)
  · obtain ⟨a1, a2, a3, a4, a5, a6⟩ := h.bs p hp
    exact ⟨row_kept a1 g a6, Nat.lt_of_lt_of_le a2 g.size, a3, a4, a5, new_ne hb a6 a2⟩
theorem Ap3.cell (h : Ap3 W w' base S v1 v2 v3 n1 n2 n3 x1 x2 x3 bs) {p : Addr} {v : Value} (hc : W.cell? p = some v) (hp : ¬ S p.block) : w'.cell? p = some v := h.gb.cell hc hp
end Go.Proofs.Ytlgggeeflomelaa
