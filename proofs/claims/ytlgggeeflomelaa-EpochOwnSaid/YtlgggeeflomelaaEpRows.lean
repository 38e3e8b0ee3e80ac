/- spigotlaw13: the lists that EpochOwn keeps. -/
import Derived.Test.YtlgggeeflomelaaEpS
import Derived.Test.YtlgggeeflomelaaEpOwn
import Derived.Test.YtlgggeeflomelaaOff
namespace Go.Proofs.Ytlgggeeflomelaa
open Go.RowKit

theorem size_int : ∀ u : World, (sizeOf 3).run Try.prog u = .ok 1 u := fun _ => by kernel_rfl
/-- three lists in a row at hb -/
def RowsM (w0 : World) (F : Nat → Prop) (hb : Nat) (Ls : Nat → List Int) (vs : Nat → Value) (bs : Nat → Option Nat) (w : World) : Prop :=
  ¬ F hb ∧ w0.heap.size ≤ hb ∧ w.heap[hb]? = some (.cells #[vs 0, vs 1, vs 2] 34 (0, 0)) ∧
    (∀ d, d < 3 → OffAt w (bs d) (vs d) (Ls d).length (ivals (Ls d)) ∧ ∀ b, bs d = some b → ¬ F b ∧ b ≠ hb ∧ w0.heap.size ≤ b) ∧ ∀ i j b, i < 3 → j < 3 → bs i = some b → bs j = some b → i = j
theorem RowsM.go {w0 w w' : World} {F F' : Nat → Prop} {hb : Nat} {Ls : Nat → List Int} {vs : Nat → Value} {bs : Nat → Option Nat} (h : RowsM w0 F hb Ls vs bs w) (g : GB w w' F) (f : ∀ i, F' i → F i ∨ w.heap.size ≤ i) : RowsM w0 F' hb Ls vs bs w' := by
  obtain ⟨h1, h2, h3, h4, h5⟩ := h
  refine ⟨fun e => (f _ e).elim h1 (fun e => by have := blk_lt h3; omega), h2, g.blk h3 h1, fun d hd => ?_, h5⟩
  obtain ⟨a, b⟩ := h4 d hd
  exact ⟨a.gb g (fun x hx => (b x hx).1), fun x hx => ⟨fun e => (f _ e).elim (b x hx).1 (fun e => by have := a.lt x hx; omega), (b x hx).2⟩⟩
theorem RowsM.ext {w0 w w' : World} {F : Nat → Prop} {hb : Nat} {Ls : Nat → List Int} {vs : Nat → Value} {bs : Nat → Option Nat} (h : RowsM w0 F hb Ls vs bs w) (x : Ext w w') : RowsM w0 F hb Ls vs bs w' := h.go (GB.of_ext F x) (fun _ h => .inl h)
theorem RowsM.congr {w0 w : World} {F : Nat → Prop} {hb : Nat} {Ls Ls' : Nat → List Int} {vs : Nat → Value} {bs : Nat → Option Nat} (h : RowsM w0 F hb Ls vs bs w) (e : ∀ d, d < 3 → Ls d = Ls' d) : RowsM w0 F hb Ls' vs bs w := by
  obtain ⟨h1, h2, h3, h4, h5⟩ := h
  exact ⟨h1, h2, h3, fun d hd => by rw [← e d hd]; exact h4 d hd, h5⟩
theorem three_get (vs : Nat → Value) {d : Nat} (hd : d < 3) : (#[vs 0, vs 1, vs 2] : Array Value)[d]? = some (vs d) := by
  rcases (by omega : d = 0 ∨ d = 1 ∨ d = 2) with rfl | rfl | rfl <;> rfl
theorem three_set (vs : Nat → Value) {d : Nat} (hd : d < 3) (x : Value) : (#[vs 0, vs 1, vs 2] : Array Value).setIfInBounds d x = #[updG vs d x 0, updG vs d x 1, updG vs d x 2] := by
  rcases (by omega : d = 0 ∨ d = 1 ∨ d = 2) with rfl | rfl | rfl <;> rfl
theorem RowsM.cell {w0 w : World} {F : Nat → Prop} {hb : Nat} {Ls : Nat → List Int} {vs : Nat → Value} {bs : Nat → Option Nat} (h : RowsM w0 F hb Ls vs bs w) {d : Nat} (hd : d < 3) : w.cell? ⟨hb, d, none⟩ = some (vs d) ∧ w.frozen? ⟨hb, d, none⟩ = false :=
  ⟨(blk_cell h.2.2.1 d).trans (three_get vs hd), blk_frozen h.2.2.1 d⟩
/-- a list is stored anew -/
theorem RowsM.put {w0 w w' : World} {F : Nat → Prop} {hb d : Nat} {Ls : Nat → List Int} {vs : Nat → Value} {bs : Nat → Option Nat} (h : RowsM w0 F hb Ls vs bs w) (hd : d < 3) (hF : ∀ i, F i → i < w.heap.size) (hw0 : w0.heap.size ≤ w.heap.size) {v' : Value} {ob' : Option Nat} {L' : List Int} (h' : OffAt w' ob' v' L'.length (ivals L')) (g : GB w w' (fun b => bs d = some b)) (ho : ∀ b, ob' = some b → bs d = some b ∨ w.heap.size ≤ b) :
    RowsM w0 F hb (updG Ls d L') (updG vs d v') (updG bs d ob') (w'.setCell ⟨hb, d, none⟩ v') := by
  obtain ⟨h1, h2, h3, h4, h5⟩ := h
  have gs : GB w' (w'.setCell ⟨hb, d, none⟩ v') (· = hb) := (GB.refl w' (· = hb)).set hb d _ (.inl rfl)
  have hbl := blk_lt h3
  have old := (h4 d hd).2
  have hnh : ∀ b, ob' = some b → ¬ F b ∧ b ≠ hb ∧ w0.heap.size ≤ b := fun b hb' => (ho b hb').elim (old b) (fun e => ⟨fun hf => by have := hF b hf; omega, by omega, by omega⟩)
  refine ⟨h1, h2, ?_, fun j hj => ?_, fun i j b hi hj ei ej => ?_⟩
  · rw [← three_set vs hd v']
    exact blk_set (g.blk h3 (fun e => (old hb e).2.1 rfl)) d v'
  · by_cases e : j = d
    · subst e
      rw [updG_self, updG_self, updG_self]
      exact ⟨h'.gb gs (fun b e => (hnh b e).2.1), hnh⟩
    · rw [updG_other _ _ e, updG_other _ _ e, updG_other _ _ e]
      obtain ⟨a, b⟩ := h4 j hj
      exact ⟨(a.gb g (fun x hx hx' => e (h5 j d x hj hd hx hx'))).gb gs (fun x hx => (b x hx).2.1), b⟩
  · have key : ∀ i, i < 3 → updG bs d ob' i = some b → (i = d ∧ ob' = some b) ∨ (i ≠ d ∧ bs i = some b) := fun i _ hi => by
      by_cases e : i = d
      · subst e; rw [updG_self] at hi; exact .inl ⟨rfl, hi⟩
      · rw [updG_other _ _ e] at hi; exact .inr ⟨e, hi⟩
    have cross : ∀ i, i < 3 → i ≠ d → bs i = some b → ob' = some b → False := fun i hi hne e1 e2 => (ho b e2).elim (fun e => hne (h5 i d b hi hd e1 e)) (fun e => by have := (h4 i hi).1.lt b e1; omega)
    rcases key i hi ei with ⟨rfl, e1⟩ | ⟨n1, e1⟩
    · rcases key j hj ej with ⟨rfl, e2⟩ | ⟨n2, e2⟩
      · rfl
      · exact (cross j hj n2 e2 e1).elim
    · rcases key j hj ej with ⟨rfl, e2⟩ | ⟨n2, e2⟩
      · exact (cross i hi n1 e1 e2).elim
      · exact h5 i j b hi hj e1 e2
theorem off_to {w : World} {ob : Option Nat} {ao : Option Addr} {n cap : Nat} {xs : List Value} (h : OffAt w ob (.slice ao n cap) n xs) (k : Nat) (hk : k ≤ n) {ki : Int} (hki : ki = (k : Int)) :
    ∃ A', (∀ u : World, (Instr.slice 34 (.slice ao n cap) none (some (.int .i64 ki)) none).run Try.prog u = .ok (.slice A' k cap) u) ∧ Rd w A' (xs.take k) := by
  subst hki
  obtain ⟨ao', cap', h1, h2, h3, h4, h5⟩ := h
  injection h1 with h1 _ h1'
  subst h1 h1'
  have he : Try.prog.elem 34 = 3 := by simp [Program.elem, Try.underlying34]
  have hrun : ∀ u : World, (Instr.slice 34 (.slice ao n cap) none (some (.int .i64 (k : Int))) none).run Try.prog u = .ok (.slice (if cap = 0 then ao else ao.map (·.add (0 * 1))) k cap) u := fun u => by
    rw [run_slice_h (P := Try.prog) u 34 ao n cap (by rw [he]; exact Try.underlying34) .i64 (k : Int) (by omega) (by omega), he, size_int]
    simp only [Result.andThen, sliced, Int.toNat_natCast, Nat.sub_zero]
  refine ⟨_, hrun, fun hne => ?_⟩
  rcases h5 with ⟨e0, _⟩ | ⟨b, off, cs, tt, e1, e2, e3, e4, e5⟩
  · exact absurd (List.eq_nil_of_length_eq_zero (by rw [List.length_take]; omega)) hne
  · by_cases hc : cap = 0
    · exact absurd (List.eq_nil_of_length_eq_zero (by rw [List.length_take]; omega)) hne
    · refine ⟨b, off, by rw [if_neg hc, e2]; simp [Addr.add_lit], fun j u hu => ?_⟩
      have hj : j < k := by have := (List.getElem?_eq_some_iff.1 hu).1; rw [List.length_take] at this; omega
      rw [List.getElem?_take_of_lt hj] at hu
      exact (blk_cell e3 _).trans (e5 j u hu)
/-- append of one number onto a list that may begin in the middle of its row -/
theorem app_off {ops : Array Oper} {rest : List Oper} {o : Oper} {a : Act} {Q : Exit → Act → World → Prop} (w : World) (hgd : o.guard = none) (s x : Operand)
    (ho : o.op = .call { callee := .builtin .append, args := #[s, x], argTypes := #[34, 34] })
    {ob : Option Nat} {v : Value} {n : Nat} {xs : List Int} (hv : a.eval s = v) (h : OffAt w ob v n (ivals xs)) (hn : n ≤ 1000000) {A : Option Addr} {c : Nat} (y : Int) (hxv : a.eval x = .slice A 1 c) (hr : Rd w A [.int .i64 y])
    (hK : ∀ ao cap w' ob', OffAt w' ob' (.slice ao (n + 1) cap) (n + 1) (ivals (xs ++ [y])) → GB w w' (fun b => ob = some b) → (ob' = ob ∨ ob' = some w.heap.size) → wpList Try.prog ops Q rest (a.put o.dst (.slice ao (n + 1) cap)) w') :
    wpList Try.prog ops Q (o :: rest) a w := by
  obtain ⟨i0, hi, hz0, hz1, hz2⟩ := info_parts info_int
  obtain ⟨b, off, rfl, hc⟩ := hr (by simp)
  have hy := hc 0 _ rfl
  refine wpList_off w hgd s x 34 3 ho i0 (.int .i64 0) Try.underlying34 hi hz0 hz1 rfl (by rw [hz2]; omega) hv h hn ⟨b, off, none⟩ c (.int .i64 y) hxv (by rw [Nat.add_zero] at hy; exact hy) rfl rfl fun v' w' ob' h1 h2 h3 => ?_
  rw [show ivals xs ++ [Value.int .i64 y] = ivals (xs ++ [y]) by rw [ivals_append]; rfl] at h1
  obtain ⟨ao, cap, rfl, _⟩ := h1.shape
  exact hK ao cap w' ob' h1 h2 h3
end Go.Proofs.Ytlgggeeflomelaa
