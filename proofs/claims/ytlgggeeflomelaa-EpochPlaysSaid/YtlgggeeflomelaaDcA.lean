/- spigotref13: what the document's Epochs are in memory; there, DocNew, end. -/
import Derived.Test.YtlgggeeflomelaaEpS
import Derived.Test.YtlgggeeflomelaaEpPlain2
namespace Go.Proofs.Ytlgggeeflomelaa
open Go.RowKit

def dtc (t : Int × Nat) : List Value := [.int .i64 t.1, .int .i64 (t.2 : Int)]
def dthings (l : List (Int × Nat)) : List Value := l.flatMap dtc
theorem dthings_len (l : List (Int × Nat)) : (dthings l).length = l.length * 2 := by
  induction l with
  | nil => rfl
  | cons a l ih =>
    have e : dthings (a :: l) = dtc a ++ dthings l := by simp [dthings]
    rw [e, List.length_append, ih, List.length_cons]
    simp [dtc]
    omega
theorem dthings_app (l m : List (Int × Nat)) : dthings (l ++ m) = dthings l ++ dthings m := by simp [dthings]
theorem dthings_one (a : Int × Nat) : dthings [a] = dtc a := by simp [dthings]
theorem dthings_get {l : List (Int × Nat)} {i : Nat} {a : Int × Nat} (h : l[i]? = some a) (j : Nat) (hj : j < 2) : (dthings l)[i * 2 + j]? = (dtc a)[j]? :=
  flat_get dtc 2 l (fun _ _ => rfl) i a h j hj
theorem dthings_cell (l : List (Int × Nat)) : ∀ u ∈ dthings l, u.oneCell' = true := by
  intro u hu
  obtain ⟨a, _, h⟩ := List.mem_flatMap.1 hu
  simp [dtc] at h
  rcases h with rfl | rfl <;> rfl
/-- a worker's cells, its list's value beside it -/
def dwc (v : DWk × Value) : List Value := [.int .u8 (v.1.op : Int), .int .i64 (v.1.place : Int), .int .i64 (v.1.e : Int), .int .i64 v.1.thing, .bool v.1.pinned, v.2, .int .i64 (v.1.p : Int)]
def dwcs (ps : List (DWk × Value)) : List Value := ps.flatMap dwc
theorem dwcs_get {ps : List (DWk × Value)} {i : Nat} {v : DWk × Value} (h : ps[i]? = some v) (j : Nat) (hj : j < 7) : (dwcs ps)[i * 7 + j]? = (dwc v)[j]? :=
  flat_get dwc 7 ps (fun _ _ => rfl) i v h j hj
theorem flat_set {α : Type} (f : α → List Value) (n : Nat) (hn : ∀ a, (f a).length = n) : ∀ (ps : List α) (i : Nat) (v u : α) (_ : ps[i]? = some v) (j : Nat) (_ : j < n) (x : Value) (_ : (f v).set j x = f u), (ps.flatMap f).set (i * n + j) x = (ps.set i u).flatMap f
  | [], i, v, u, h, _, _, _, _ => by simp at h
  | a :: ps, i, v, u, h, j, hj, x, hx => by
    rw [List.flatMap_cons]
    cases i with
    | zero =>
      simp at h
      subst h
      rw [List.set_cons_zero, List.flatMap_cons, Nat.zero_mul, Nat.zero_add, List.set_append_left _ _ (by rw [hn]; exact hj), hx]
    | succ i =>
      rw [List.set_cons_succ, List.flatMap_cons, List.set_append_right _ _ (by rw [hn, Nat.succ_mul]; omega), show (i + 1) * n + j - (f a).length = i * n + j by rw [hn, Nat.succ_mul]; omega]
      rw [flat_set f n hn ps i v u (by simpa using h) j hj x hx]
def DHeldAt (w : World) (gk : Nat) (h : Value) (l : List (Int × Nat)) : Prop := ∃ B c, h = .slice B l.length c ∧ w.ownsRow (gk + 1) 138 2 (.slice B l.length c) l.length (dthings l)
/-- the document's Epochs; F: its blocks -/
def DAt (w : World) (F : Nat → Prop) (gk n : Nat) (d : DSt) : Prop :=
  ∃ (ps : List (DWk × Value)), w.heap[gk + 1]? = some (.cells #[.int .i64 (d.ep : Int), .slice (some ⟨gk, 0, none⟩) n n] 130 (0, 0)) ∧ w.heap[gk]? = some (.cells (dwcs ps).toArray 134 (0, 0)) ∧ ps.length = n ∧
    (∀ (i : Nat) (v : DWk × Value), ps[i]? = some v → v.1 = d.wk i ∧ DHeldAt w gk v.2 (d.wk i).held ∧ ∀ q, v.2.ownBlock = some q → F q ∧ q ≠ gk + 1) ∧
    (∀ (i j : Nat) (vi vj : DWk × Value) (q : Nat), ps[i]? = some vi → ps[j]? = some vj → vi.2.ownBlock = some q → vj.2.ownBlock = some q → i = j) ∧ F (gk + 1) ∧ F gk ∧ ∀ i, F i → i < w.heap.size
def DGo (w : World) (F : Nat → Prop) (gk n : Nat) (d : DSt) (w' : World) : Prop := ∃ F', DAt w' F' gk n d ∧ GB w w' F ∧ (∀ i, F i → F' i) ∧ ∀ i, F' i → F i ∨ w.heap.size ≤ i
theorem DAt.lt {w : World} {F : Nat → Prop} {gk n : Nat} {d : DSt} (h : DAt w F gk n d) : ∀ i, F i → i < w.heap.size := by
  obtain ⟨_, _, _, _, _, _, _, _, h⟩ := h
  exact h
theorem DAt.gb {w w' : World} {F S : Nat → Prop} {gk n : Nat} {d : DSt} (h : DAt w F gk n d) (g : GB w w' S) (hs : ∀ i, F i → ¬ S i) : DAt w' F gk n d := by
  obtain ⟨ps, h1, h2, h3, h4, h5, h7, h8, h9⟩ := h
  refine ⟨ps, g.blk h1 (hs _ h7), g.blk h2 (hs _ h8), h3, fun i v hv => ?_, h5, h7, h8, fun i hi => Nat.lt_of_lt_of_le (h9 i hi) g.size⟩
  obtain ⟨a, ⟨B, c, b1, b2⟩, k⟩ := h4 i v hv
  exact ⟨a, ⟨B, c, b1, g.own b2 (fun q hq => hs q (k q (b1 ▸ hq)).1)⟩, k⟩
theorem DAt.ext {w w' : World} {F : Nat → Prop} {gk n : Nat} {d : DSt} (h : DAt w F gk n d) (x : Ext w w') : DAt w' F gk n d := h.gb (GB.of_ext (fun _ => False) x) (fun _ _ => id)
theorem DGo.refl {w : World} {F : Nat → Prop} {gk n : Nat} {d : DSt} (h : DAt w F gk n d) : DGo w F gk n d w := ⟨F, h, GB.refl w F, fun _ h => h, fun _ h => .inl h⟩
theorem DGo.ext {w w1 w2 : World} {F : Nat → Prop} {gk n : Nat} {d : DSt} (h : DGo w F gk n d w1) (x : Ext w1 w2) : DGo w F gk n d w2 := by
  obtain ⟨F', h1, h2, h3, h4⟩ := h
  exact ⟨F', h1.ext x, h2.ext x, h3, h4⟩
theorem DGo.back {w0 w w1 : World} {F : Nat → Prop} {gk n : Nat} {d : DSt} (x : Ext w0 w) (h : DGo w F gk n d w1) : DGo w0 F gk n d w1 := by
  obtain ⟨F', h1, h2, h3, h4⟩ := h
  exact ⟨F', h1, GB.back x h2, h3, fun i hi => (h4 i hi).imp id (Nat.le_trans x.size)⟩
theorem DGo.trans {w w1 w2 : World} {F F1 : Nat → Prop} {gk n : Nat} {d : DSt} (g : GB w w1 F) (hF : ∀ i, F i → F1 i) (hF1 : ∀ i, F1 i → F i ∨ w.heap.size ≤ i) (h : DGo w1 F1 gk n d w2) : DGo w F gk n d w2 := by
  obtain ⟨F', h1, h2, h3, h4⟩ := h
  refine ⟨F', h1, g.trans h2 hF1, fun i hi => h3 i (hF i hi), fun i hi => ?_⟩
  rcases h4 i hi with h | h
  · exact hF1 i h
  · exact .inr (Nat.le_trans g.size h)
theorem dput_self (d : DSt) (who : Nat) (x : DWk) : (d.put who x).wk who = x := updG_self _ _ _
theorem dput_other (d : DSt) {who j : Nat} (x : DWk) (h : j ≠ who) : (d.put who x).wk j = d.wk j := updG_other _ _ h
theorem dput_put (d : DSt) (who : Nat) (a b : DWk) : (d.put who a).put who b = d.put who b := by
  unfold DSt.put
  congr 1
  funext j
  show (if j = who then b else (if j = who then a else d.wk j)) = if j = who then b else d.wk j
  by_cases e : j = who
  · rw [if_pos e, if_pos e]
  · rw [if_neg e, if_neg e, if_neg e]
/-- a worker's cells, and what they may become -/
theorem DAt.wk {w : World} {F : Nat → Prop} {gk n who : Nat} {d : DSt} (h : DAt w F gk n d) (hw : who < n) :
    ∃ B c, F (gk + 1) ∧ F gk ∧ w.cell? ⟨gk + 1, 0, none⟩ = some (.int .i64 (d.ep : Int)) ∧ w.cell? ⟨gk + 1, 1, none⟩ = some (.slice (some ⟨gk, 0, none⟩) n n) ∧ w.frozen? ⟨gk + 1, 0, none⟩ = false ∧
      (∀ j, j < 7 → w.cell? ⟨gk, who * 7 + j, none⟩ = (dwc (d.wk who, .slice B (d.wk who).held.length c))[j]?) ∧ (∀ j, w.frozen? ⟨gk, j, none⟩ = false) ∧
      w.ownsRow (gk + 1) 138 2 (.slice B (d.wk who).held.length c) (d.wk who).held.length (dthings (d.wk who).held) ∧ (∀ q, (Value.slice B (d.wk who).held.length c).ownBlock = some q → F q ∧ q ≠ gk + 1) ∧
      (∀ (j : Nat) (x : Value) (y : DWk), j < 7 → j ≠ 5 → (dwc (d.wk who, .slice B (d.wk who).held.length c)).set j x = dwc (y, .slice B (d.wk who).held.length c) → y.held = (d.wk who).held → DAt (w.setCell ⟨gk, who * 7 + j, none⟩ x) F gk n (d.put who y)) ∧
      (∀ x : Nat, DAt (w.setCell ⟨gk + 1, 0, none⟩ (.int .i64 (x : Int))) F gk n { d with ep := x }) := by
  obtain ⟨ps, h1, h2, h3, h4, h5, h7, h8, h9⟩ := h
  obtain ⟨v, hv⟩ : ∃ v, ps[who]? = some v := ⟨_, List.getElem?_eq_getElem (by omega)⟩
  obtain ⟨a, ⟨B, c, hh, ho⟩, hq⟩ := h4 who v hv
  have hve : v = (d.wk who, .slice B (d.wk who).held.length c) := Prod.ext a hh
  have hown : ∀ (i : Nat) (y : DWk × Value), ps[i]? = some y → ∀ q, y.2.ownBlock = some q → gk < q := fun i y hy q hq => by
    obtain ⟨_, ⟨B, c, hh, ho⟩, _⟩ := h4 i y hy
    rw [hh] at hq
    have := (ho.lt q hq).1
    omega
  refine ⟨B, c, h7, h8, blk_cell h1 0, blk_cell h1 1, blk_frozen h1 0, fun j hj => (blk_cell h2 _).trans (by rw [List.getElem?_toArray, dwcs_get hv j hj, hve]), fun j => blk_frozen h2 j, ho, fun q e => hq q (hh ▸ e), fun j x y hj hj5 hx hyh => ?_, fun x => ?_⟩
  · have gs : GB w (w.setCell ⟨gk, who * 7 + j, none⟩ x) (· = gk) := (GB.refl w (· = gk)).set gk _ _ (.inl rfl)
    have hget : ∀ (i : Nat) (z : DWk × Value), (ps.set who (y, .slice B (d.wk who).held.length c))[i]? = some z → (i = who ∧ z = (y, .slice B (d.wk who).held.length c)) ∨ (i ≠ who ∧ ps[i]? = some z) := fun i z hz => by
      by_cases e : i = who
      · subst e
        rw [List.getElem?_set_self (by omega)] at hz
        injection hz with hz
        exact .inl ⟨rfl, hz.symm⟩
      · rw [List.getElem?_set_ne (fun h => e h.symm)] at hz
        exact .inr ⟨e, hz⟩
    refine ⟨ps.set who (y, .slice B (d.wk who).held.length c), gs.blk h1 (by omega), ?_, by simpa using h3, fun i z hz => ?_, fun i j vi vj q hi hj hqi hqj => ?_, h7, h8, fun i hi => by simpa using h9 i hi⟩
    · refine (blk_set h2 _ x).trans ?_
      have := flat_set dwc 7 (fun _ => rfl) ps who v (y, .slice B (d.wk who).held.length c) hv j hj x (by rw [hve]; exact hx)
      unfold dwcs
      rw [← this]
      simp
    · rcases hget i z hz with ⟨rfl, rfl⟩ | ⟨hne, hz⟩
      · rw [dput_self]
        refine ⟨rfl, ⟨B, c, by rw [hyh], ?_⟩, fun q e => hq q (hh ▸ e)⟩
        rw [hyh]
        exact gs.own ho (fun q e e' => by have := hown i v hv q (hh ▸ e); omega)
      · rw [dput_other d y hne]
        obtain ⟨a', ⟨B', c', b1, b2⟩, k'⟩ := h4 i z hz
        exact ⟨a', ⟨B', c', b1, gs.own b2 (fun q e e' => by have := hown i z hz q (b1 ▸ e); omega)⟩, k'⟩
    · have key : ∀ (i : Nat) (z : DWk × Value), (ps.set who (y, .slice B (d.wk who).held.length c))[i]? = some z → ∃ z', ps[i]? = some z' ∧ z'.2 = z.2 := fun i z hz => by
        rcases hget i z hz with ⟨rfl, rfl⟩ | ⟨_, hz⟩
        · exact ⟨v, hv, hh⟩
        · exact ⟨z, hz, rfl⟩
      obtain ⟨yi, ei, ei2⟩ := key i vi hi
      obtain ⟨yj, ej, ej2⟩ := key j vj hj
      exact h5 i j yi yj q ei ej (ei2 ▸ hqi) (ej2 ▸ hqj)
  · have gs : GB w (w.setCell ⟨gk + 1, 0, none⟩ (.int .i64 (x : Int))) (· = gk + 1) := (GB.refl w (· = gk + 1)).set (gk + 1) _ _ (.inl rfl)
    refine ⟨ps, blk_set h1 0 _, gs.blk h2 (by omega), h3, fun i z hz => ?_, h5, h7, h8, fun i hi => by simpa using h9 i hi⟩
    obtain ⟨a', ⟨B', c', b1, b2⟩, k'⟩ := h4 i z hz
    exact ⟨a', ⟨B', c', b1, gs.own b2 (fun q e e' => (k' q (b1 ▸ e)).2 e')⟩, k'⟩
theorem dthere_ok (w : World) (gk n who : Nat) (h : w.cell? ⟨gk + 1, 1, none⟩ = some (.slice (some ⟨gk, 0, none⟩) n n)) (hw : who < n) :
    Calls Try.prog 55 #[.pointer (some ⟨gk + 1, 0, none⟩), .int .i64 (who : Int)] w fun e w' => e = .returned (.bool true) ∧ w = w' := by
  go_enter Try.func55, Try.ntmps55
  go_wp2
  go_ret
  exact ⟨rfl, rfl⟩
theorem dthere_bad (w : World) (gk n : Nat) (who : Int) (h : w.cell? ⟨gk + 1, 1, none⟩ = some (.slice (some ⟨gk, 0, none⟩) n n)) (hb : ¬ (0 ≤ who ∧ who < (n : Int))) :
    Calls Try.prog 55 #[.pointer (some ⟨gk + 1, 0, none⟩), .int .i64 who] w fun e w' => e = .returned (.bool false) ∧ w = w' := by
  by_cases h0 : 0 ≤ who
  · have h1 : ¬ who < (n : Int) := by omega
    clear hb
    go_enter Try.func55, Try.ntmps55
    go_wp2
    go_ret
    exact ⟨rfl, rfl⟩
  · clear hb
    go_enter Try.func55, Try.ntmps55
    go_wp2
    go_ret
    exact ⟨rfl, rfl⟩
end Go.Proofs.Ytlgggeeflomelaa
