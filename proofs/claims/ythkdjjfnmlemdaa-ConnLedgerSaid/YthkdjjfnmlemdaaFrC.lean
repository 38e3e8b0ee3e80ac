/- frame.Reader: New, Feed, End, Waiting. -/
import Derived.Test.YthkdjjfnmlemdaaFrB
import Derived.Deep.LoopGhost
namespace Go.Proofs.Ythkdjjfnmlemdaa
open Go.RowKit

theorem rd_none {w : World} {xs : List Nat} (h : Rd w none (vals .u8 xs)) : xs = [] := by
  cases xs with
  | nil => rfl
  | cons x t =>
    obtain ⟨b, off, hA, _⟩ := h (by simp [vals])
    cases hA
theorem clone_any (A : Option Addr) (n c : Nat) (xs : List Nat) (w : World) (hl : xs.length = n) (hn : n ≤ 140737488355328) (hr : Rd w A (vals .u8 xs)) :
    Calls Try.prog 61 #[.slice A n c] w (RetB xs w) := by
  cases A with
  | none =>
    have := rd_none hr
    subst this
    exact (clone_nil w n c).mono fun e w' ⟨he, hw⟩ => ⟨none, 0, he, World.ownsRow_nil _ _ _ _, hw ▸ Ext.refl w⟩
  | some a => exact clone_some a n c xs w hl hn hr

theorem info_bb : (Try.prog.info? 28).map (fun i => (i.zero, i.size, i.bytes)) = some (some (.slice none 0 0), 1, 24) := by kernel_rfl
/-- append onto a list of lists of bytes of the call's own -/
theorem app_bb {ops : Array Oper} {rest : List Oper} {o : Oper} {a : Act} {Q : Exit → Act → World → Prop} (w : World) (hgd : o.guard = none) (s x : Operand)
    (ho : o.op = .call { callee := .builtin .append, args := #[s, x], argTypes := #[22, 22] })
    (base : Nat) {B : Option Addr} {n cb : Nat} {xs : List Value} (hs : a.eval s = .slice B n cb) (hown : w.ownsRow base 28 1 (.slice B n cb) n xs)
    {A : Option Addr} {m c : Nat} {news : List Value} (hx : a.eval x = .slice A m c) (hl : news.length = m) (hr : Rd w A news) (h1 : ∀ u ∈ news, u.oneCell' = true) (hb : (n + m) * 24 ≤ 140737488355328) (hbase : base ≤ w.heap.size)
    (h : ∀ B' cb' w', w'.ownsRow base 28 1 (.slice B' (n + m) cb') (n + m) (xs ++ news) → w.grownBy w' (Value.slice B n cb).ownBlock →
      ((Value.slice B' (n + m) cb').ownBlock = (Value.slice B n cb).ownBlock ∨ (Value.slice B' (n + m) cb').ownBlock = some w.heap.size) → wpList Try.prog ops Q rest (a.put o.dst (.slice B' (n + m) cb')) w') :
    wpList Try.prog ops Q (o :: rest) a w := by
  obtain ⟨i0, hi, hz0, hz1, hz2⟩ := info_parts info_bb
  exact wpList_append_rd w hgd s x 22 ho base 28 Try.underlying22 hi hz0 hz1 hz2 rfl (by decide) hs hown hx (by rw [hl, Nat.mul_one]) hr h1 (by unfold maxLen; omega) hb hbase h

/-- a list of lists of bytes, all in memory of the call's own, each in a block of its own -/
def PL (w : World) (base : Nat) (A : Option Addr) (n c : Nat) (pss : List (List Nat)) : Prop :=
  pss.length = n ∧ ∃ (vs : List Value) (gs : List Nat), w.ownsRow base 28 1 (.slice A n c) n vs ∧ gs.length = n ∧ gs.Pairwise (· < ·) ∧ (∀ g ∈ gs, g < w.heap.size) ∧
    ∀ (i : Nat) (ps : List Nat), pss[i]? = some ps → ∃ g ci : Nat, gs[i]? = some g ∧ vs[i]? = some (Value.slice (some ⟨g, 0, none⟩) ps.length ci) ∧ w.ownsRow base 5 1 (.slice (some ⟨g, 0, none⟩) ps.length ci) ps.length (vals .u8 ps)
theorem PL.nil (w : World) (base : Nat) : PL w base none 0 0 [] := ⟨rfl, [], [], World.ownsRow_nil _ _ _ _, rfl, List.Pairwise.nil, by simp, by simp⟩
theorem own_types {w : World} {base base' : Nat} {e e' : TypeId} {size size' n n' : Nat} {v v' : Value} {xs xs' : List Value} (h : w.ownsRow base e size v n xs) (h' : w.ownsRow base' e' size' v' n' xs') (hne : e ≠ e') : v.ownBlock = none ∨ v.ownBlock ≠ v'.ownBlock := by
  rcases h.2 with ⟨rfl, _⟩ | ⟨g, _, _, rfl, _, hg, _⟩
  · exact .inl rfl
  · rcases h'.2 with ⟨rfl, _⟩ | ⟨g', _, _, rfl, _, hg', _⟩
    · exact .inr (by simp [Value.ownBlock])
    · right
      intro e1
      simp only [Value.ownBlock, Option.some.injEq] at e1
      subst e1
      rw [hg] at hg'
      injection hg' with hg'
      injection hg' with _ ht
      exact hne ht
/-- kept while what lies below the world's size stays, but for the list's own head row -/
theorem PL.keep {w w' : World} {base : Nat} {A : Option Addr} {n c : Nat} {pss : List (List Nat)} (h : PL w base A n c pss) {row : Option Nat} (hg : w.grownBy w' row) (hrow : ∀ k, row = some k → k < base) : PL w' base A n c pss := by
  obtain ⟨hl, vs, gs, ho, hgl, hp, hgs, hall⟩ := h
  have ne : ∀ {v : Value} {n : Nat} {e : TypeId} {xs : List Value}, w.ownsRow base e 1 v n xs → v.ownBlock = none ∨ v.ownBlock ≠ row := by
    intro v n e xs hv
    by_cases hn : v.ownBlock = none
    · exact .inl hn
    · right
      intro e1
      cases hb : v.ownBlock with
      | none => exact hn hb
      | some k =>
        have h1 := (hv.lt k hb).1
        have h2 := hrow k (by rw [← e1, hb])
        omega
  exact ⟨hl, vs, gs, ho.kept hg (ne ho), hgl, hp, fun g hg' => Nat.lt_of_lt_of_le (hgs g hg') hg.size, fun i ps hi => by
    obtain ⟨g, ci, h1, h2, h3⟩ := hall i ps hi
    exact ⟨g, ci, h1, h2, h3.kept hg (ne h3)⟩⟩
theorem PL.ext {w w' : World} {base : Nat} {A : Option Addr} {n c : Nat} {pss : List (List Nat)} (h : PL w base A n c pss) (hx : Ext w w') : PL w' base A n c pss :=
  h.keep (row := none) ⟨hx.os, hx.tape, hx.output, hx.size, fun k hk _ => hx.block k hk⟩ (by simp)

/-- a list opened: its cells, its payloads' blocks, all below lim -/
def PLv (w : World) (base lim : Nat) (A : Option Addr) (n c : Nat) (pss : List (List Nat)) (vs : List Value) : Prop :=
  pss.length = n ∧ ∃ gs : List Nat, w.ownsRow base 28 1 (.slice A n c) n vs ∧ gs.length = n ∧ gs.Pairwise (· < ·) ∧ (∀ g ∈ gs, g < lim) ∧
      ∀ (i : Nat) (ps : List Nat), pss[i]? = some ps → ∃ g ci : Nat, gs[i]? = some g ∧ vs[i]? = some (Value.slice (some ⟨g, 0, none⟩) ps.length ci) ∧ w.ownsRow base 5 1 (.slice (some ⟨g, 0, none⟩) ps.length ci) ps.length (vals .u8 ps)
theorem PL.open_ {w w' : World} {base : Nat} {A : Option Addr} {n c : Nat} {pss : List (List Nat)} (h : PL w base A n c pss) {row : Option Nat} (hg : w.grownBy w' row) (hrow : ∀ k, row = some k → k < base) : ∃ vs, PLv w' base w.heap.size A n c pss vs := by
  obtain ⟨hl, vs, gs, ho, hgl, hp, hgs, hall⟩ := h
  have ne : ∀ {v : Value} {n : Nat} {e : TypeId} {xs : List Value}, w.ownsRow base e 1 v n xs → v.ownBlock = none ∨ v.ownBlock ≠ row := by
    intro v n e xs hv
    by_cases hn : v.ownBlock = none
    · exact .inl hn
    · right
      intro e1
      cases hb : v.ownBlock with
      | none => exact hn hb
      | some k =>
        have h1 := (hv.lt k hb).1
        have h2 := hrow k (by rw [← e1, hb])
        omega
  exact ⟨vs, hl, gs, ho.kept hg (ne ho), hgl, hp, hgs, fun i ps hi => by
    obtain ⟨g, ci, h1, h2, h3⟩ := hall i ps hi
    exact ⟨g, ci, h1, h2, h3.kept hg (ne h3)⟩⟩
theorem PLv.own {w : World} {base lim : Nat} {A : Option Addr} {n c : Nat} {pss : List (List Nat)} {vs : List Value} (h : PLv w base lim A n c pss vs) : w.ownsRow base 28 1 (.slice A n c) n vs := by
  obtain ⟨_, gs, h, _⟩ := h
  exact h

/-- one payload more -/
theorem PLv.snoc {w w1 w2 : World} {base lim : Nat} {A : Option Addr} {n c : Nat} {pss : List (List Nat)} {vs : List Value} (h : PLv w base lim A n c pss vs) {ps : List Nat} {Ap : Option Addr} {cp : Nat}
    (hp : w.ownsRow lim 5 1 (.slice Ap ps.length cp) ps.length (vals .u8 ps)) (hps : 0 < ps.length) (hbase : base ≤ lim) (hlim : lim ≤ w.heap.size) (hx : w.grownBy w1 none)
    {B' : Option Addr} {cb' : Nat} (ho : w2.ownsRow base 28 1 (.slice B' (n + 1) cb') (n + 1) (vs ++ [.slice Ap ps.length cp])) (hg : w1.grownBy w2 (Value.slice A n c).ownBlock) : PL w2 base B' (n + 1) cb' (pss ++ [ps]) := by
  obtain ⟨hl, gs, h1, h2, h3, h4, h5⟩ := h
  obtain ⟨g, rfl, hg1, hg2⟩ := own_block hp hps
  have hvl : vs.length = n := by have := h1.1; omega
  have hw1 : w1.ownsRow base 28 1 (.slice A n c) n vs := h1.kept hx (by cases (Value.slice A n c).ownBlock <;> simp)
  refine ⟨by simp [hl], vs ++ [.slice (some ⟨g, 0, none⟩) ps.length cp], gs ++ [g], ho, by simp [h2], ?_, ?_, ?_⟩
  · rw [List.pairwise_append]
    exact ⟨h3, by simp, fun a ha b hb => by rw [List.mem_singleton.1 hb]; have := h4 a ha; omega⟩
  · intro a ha
    rcases List.mem_append.1 ha with ha | ha
    · have := h4 a ha; have := hx.size; have := hg.size; omega
    · rw [List.mem_singleton.1 ha]; have := hx.size; have := hg.size; omega
  · intro i qs hi
    by_cases hin : i < pss.length
    · rw [List.getElem?_append_left hin] at hi
      obtain ⟨g', ci, k1, k2, k3⟩ := h5 i qs hi
      have k4 : w1.ownsRow base 5 1 (.slice (some ⟨g', 0, none⟩) qs.length ci) qs.length (vals .u8 qs) := k3.kept hx (by simp [Value.ownBlock])
      exact ⟨g', ci, by rw [List.getElem?_append_left (by omega)]; exact k1, by rw [List.getElem?_append_left (by omega)]; exact k2, k4.kept hg (own_types k4 hw1 (by decide))⟩
    · rw [List.getElem?_append_right (by omega)] at hi
      have hi0 : i = pss.length := by
        have := (List.getElem?_eq_some_iff.1 hi).1
        simp at this; omega
      subst hi0
      simp at hi
      subst hi
      have k4 : w1.ownsRow base 5 1 (.slice (some ⟨g, 0, none⟩) ps.length cp) ps.length (vals .u8 ps) := (own_base hp hbase).kept hx (by simp [Value.ownBlock])
      exact ⟨g, cp, by rw [List.getElem?_append_right (by omega)]; simp [h2, hl], by rw [List.getElem?_append_right (by omega)]; simp [hvl, hl], k4.kept hg (own_types k4 hw1 (by decide))⟩
end Go.Proofs.Ythkdjjfnmlemdaa
