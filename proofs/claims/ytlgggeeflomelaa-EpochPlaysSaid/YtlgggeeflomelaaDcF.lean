/- spigotref13: a worker's list is stored; appends. -/
import Derived.Test.YtlgggeeflomelaaDcE
import Derived.Deep.RegionLaw
namespace Go.Proofs.Ytlgggeeflomelaa
open Go.RowKit

/-- a worker's list, new or gone on with, is stored -/
theorem DAt.put_held {w w3 : World} {F S : Nat → Prop} {gk n who c c' : Nat} {d : DSt} {B B' : Option Addr} {l' : List (Int × Nat)} (h : DAt w F gk n d) (hw : who < n) (hcell : w.cell? ⟨gk, who * 7 + 5, none⟩ = some (.slice B (d.wk who).held.length c))
    (g : GB w w3 S) (hS : ∀ i, S i → (Value.slice B (d.wk who).held.length c).ownBlock = some i ∨ ¬ F i) (ho : w3.ownsRow (gk + 1) 138 2 (.slice B' l'.length c') l'.length (dthings l')) (hq : ∀ q, (Value.slice B' l'.length c').ownBlock = some q → (Value.slice B (d.wk who).held.length c).ownBlock = some q ∨ (¬ F q ∧ q ≠ gk + 1)) :
    ∃ F', DAt (w3.setCell ⟨gk, who * 7 + 5, none⟩ (.slice B' l'.length c')) F' gk n (d.put who { d.wk who with held := l' }) ∧ (∀ i, F i → F' i) ∧ ∀ i, F' i → F i ∨ (Value.slice B' l'.length c').ownBlock = some i := by
  obtain ⟨ps, h1, h2, h3, h4, h5, h7, h8, h9⟩ := h
  obtain ⟨v, hv⟩ : ∃ v, ps[who]? = some v := ⟨_, List.getElem?_eq_getElem (by omega)⟩
  obtain ⟨a, ⟨B0, c0, hh, ho0⟩, e⟩ := h4 who v hv
  have hvh : v.2 = .slice B (d.wk who).held.length c := by
    have hc := (blk_cell h2 (who * 7 + 5)).symm.trans hcell
    rw [List.getElem?_toArray, dwcs_get hv 5 (by omega)] at hc
    simpa [dwc] using hc
  rw [← hvh] at hS hq
  have hown : ∀ (i : Nat) (y : DWk × Value), ps[i]? = some y → ∀ q, y.2.ownBlock = some q → gk < q ∧ q < w.heap.size := fun i y hy q hq => by
    obtain ⟨_, ⟨B, c, hh, ho⟩, _⟩ := h4 i y hy
    rw [hh] at hq
    have := ho.lt q hq
    omega
  have gs : GB w3 (w3.setCell ⟨gk, who * 7 + 5, none⟩ (.slice B' l'.length c')) (· = gk) := (GB.refl w3 (· = gk)).set gk _ _ (.inl rfl)
  have hfr : ∀ q, (Value.slice B' l'.length c').ownBlock = some q → gk < q ∧ q < w3.heap.size := fun q hq => by have := ho.lt q hq; omega
  have hget : ∀ (i : Nat) (z : DWk × Value), (ps.set who ({ d.wk who with held := l' }, .slice B' l'.length c'))[i]? = some z → (i = who ∧ z = ({ d.wk who with held := l' }, .slice B' l'.length c')) ∨ (i ≠ who ∧ ps[i]? = some z) := fun i z hz => by
    by_cases e : i = who
    · subst e
      rw [List.getElem?_set_self (by omega)] at hz
      injection hz with hz
      exact .inl ⟨rfl, hz.symm⟩
    · rw [List.getElem?_set_ne (fun h => e h.symm)] at hz
      exact .inr ⟨e, hz⟩
  have hgk := h9 gk h8
  have hgx := h9 (gk + 1) h7
  refine ⟨fun i => F i ∨ (Value.slice B' l'.length c').ownBlock = some i, ⟨ps.set who ({ d.wk who with held := l' }, .slice B' l'.length c'), gs.blk (g.blk h1 (fun e' => (hS _ e').elim (fun e' => (e _ e').2 rfl) (fun h => h h7))) (by omega), ?_, by simpa using h3, fun i z hz => ?_, fun i j vi vj q hi hj hqi hqj => ?_, .inl h7, .inl h8, fun i hi => ?_⟩, fun i hi => .inl hi, fun i hi => hi⟩
  · refine (blk_set (g.blk h2 (fun e' => (hS _ e').elim (fun e' => Nat.lt_irrefl _ (hown who v hv _ e').1) (fun h => h h8))) _ _).trans ?_
    have := flat_set dwc 7 (fun _ => rfl) ps who v ({ d.wk who with held := l' }, .slice B' l'.length c') hv 5 (by omega) (.slice B' l'.length c') (by rw [show v = (d.wk who, v.2) from Prod.ext a rfl]; rfl)
    unfold dwcs
    rw [← this]
    simp
  · rcases hget i z hz with ⟨rfl, rfl⟩ | ⟨hne, hz⟩
    · rw [dput_self]
      refine ⟨rfl, ⟨B', c', rfl, gs.own ho (fun q hq e => by have := hfr q hq; omega)⟩, fun q hq' => ⟨.inr hq', ?_⟩⟩
      rcases hq q hq' with h | h
      · exact (e q h).2
      · exact h.2
    · rw [dput_other d _ hne]
      obtain ⟨a', ⟨B2, c2, b1, b2⟩, k'⟩ := h4 i z hz
      exact ⟨a', ⟨B2, c2, b1, gs.own (g.own b2 (fun q hq1 hq2 => (hS q hq2).elim (fun hq2 => hne (h5 i who z v q hz hv (b1 ▸ hq1) hq2)) (fun h => h (k' q (b1 ▸ hq1)).1))) (fun q hq1 e => by have := hown i z hz q (b1 ▸ hq1); omega)⟩, fun q hq => ⟨.inl (k' q hq).1, (k' q hq).2⟩⟩
  · have cross : ∀ (i : Nat) (y : DWk × Value), i ≠ who → ps[i]? = some y → y.2.ownBlock = some q → (Value.slice B' l'.length c').ownBlock = some q → False := fun i y hne hy h1 h2 => by
      rcases hq q h2 with h | h
      · exact hne (h5 i who y v q hy hv h1 h)
      · exact h.1 (h4 i y hy |>.2.2 q h1).1
    rcases hget i vi hi with ⟨rfl, rfl⟩ | ⟨ki, ei⟩
    · rcases hget j vj hj with ⟨rfl, rfl⟩ | ⟨kj, ej⟩
      · rfl
      · exact (cross j vj kj ej hqj hqi).elim
    · rcases hget j vj hj with ⟨rfl, rfl⟩ | ⟨kj, ej⟩
      · exact (cross i vi ki ei hqi hqj).elim
      · exact h5 i j vi vj q ei ej hqi hqj
  · rw [World.size_setCell]
    rcases hi with hi | hi
    · exact Nat.lt_of_lt_of_le (h9 i hi) g.size
    · exact (hfr i hi).2
theorem info_dthing : (Try.prog.info? 138).map (fun i => (i.zero, i.size, i.bytes)) = some (some (.agg #[.int .i64 0, .int .i64 0]), 2, 16) := by kernel_rfl
theorem app_dthing {ops : Array Oper} {rest : List Oper} {o : Oper} {a : Act} {Q : Exit → Act → World → Prop} (w : World) (hgd : o.guard = none) (s x : Operand)
    (ho : o.op = .call { callee := .builtin .append, args := #[s, x], argTypes := #[132, 132] })
    (base : Nat) {B : Option Addr} {n cb : Nat} {xs : List (Int × Nat)} (hs : a.eval s = .slice B n cb) (hown : w.ownsRow base 138 2 (.slice B n cb) n (dthings xs))
    {A : Option Addr} {c : Nat} (y : Int × Nat) (hx : a.eval x = .slice A 1 c) (hr : Rd w A (dtc y)) (hb : n ≤ 1000000000) (hbase : base ≤ w.heap.size)
    (h : ∀ B' cb' w', w'.ownsRow base 138 2 (.slice B' (n + 1) cb') (n + 1) (dthings (xs ++ [y])) → w.grownBy w' (Value.slice B n cb).ownBlock →
      ((Value.slice B' (n + 1) cb').ownBlock = (Value.slice B n cb).ownBlock ∨ (Value.slice B' (n + 1) cb').ownBlock = some w.heap.size) → wpList Try.prog ops Q rest (a.put o.dst (.slice B' (n + 1) cb')) w') :
    wpList Try.prog ops Q (o :: rest) a w := by
  obtain ⟨i0, hi, hz0, hz1, hz2⟩ := info_parts info_dthing
  refine wpList_append_rd w hgd s x 132 ho base 138 Try.underlying132 hi hz0 hz1 hz2 rfl (by decide) hs hown hx (m := 1) (news := dtc y) rfl hr (by rw [← dthings_one]; exact dthings_cell _) (by unfold maxLen; omega) (by omega) hbase ?_
  intro B' cb' w' h2 h3 h4
  rw [← dthings_one, ← dthings_app] at h2
  exact h B' cb' w' h2 h3 h4
end Go.Proofs.Ytlgggeeflomelaa
