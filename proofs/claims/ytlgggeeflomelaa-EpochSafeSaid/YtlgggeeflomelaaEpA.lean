/- epoch: what Epochs are in memory; worker. -/
import Derived.Test.YtlgggeeflomelaaCap
import Derived.Test.YtlgggeeflomelaaEpM
import Derived.Deep.RegionHeld3
import Derived.Deep.DeepCutAuto
import Derived.Deep.QuietTactic
import Derived.BigRegion
namespace Go.Proofs.Ytlgggeeflomelaa
open Go.RowKit

/-- a pending call's function -/
def PendE (w : World) (C F : Nat → Prop) (gx who : Nat) (v : Value) : ECall → Prop
  | .idle => v = .nilFunc
  | .begun op thing => (op = 2 ∧ ∃ p0 p1, v = .func (.func 77) #[] #[p0, p1] ∧ BoxAt w C F p0 (.pointer (some ⟨gx, 0, none⟩)) ∧ BoxAt w C F p1 (.int .i64 (who : Int))) ∨
      (op ≠ 2 ∧ ∃ p0 p1 p2 p3, v = .func (.func 79) #[] #[p0, p1, p2, p3] ∧ BoxAt w C F p0 (.pointer (some ⟨gx, 0, none⟩)) ∧ BoxAt w C F p1 (.int .i64 (who : Int)) ∧ BoxAt w C F p2 (.int .u8 (op : Int)) ∧ BoxAt w C F p3 (.int .i64 thing))
  | .pinS old e => ∃ p0 p1 p2 p3, v = .func (.func 100) #[] #[p0, p1, p2, p3] ∧ BoxAt w C F p0 (.pointer (some ⟨gx, 0, none⟩)) ∧ BoxAt w C F p1 (.int .i64 (who : Int)) ∧ BoxAt w C F p2 (.int .u64 (old : Int)) ∧ BoxAt w C F p3 (.int .u64 (e : Int))
  | .pinL e => ∃ p0 p1 p2, v = .func (.func 101) #[] #[p0, p1, p2] ∧ BoxAt w C F p0 (.pointer (some ⟨gx, 0, none⟩)) ∧ BoxAt w C F p1 (.int .i64 (who : Int)) ∧ BoxAt w C F p2 (.int .u64 (e : Int))
  | .look i e => ∃ p0 p1 p2 p3, v = .func (.func 102) #[] #[p0, p1, p2, p3] ∧ BoxAt w C F p0 (.int .i64 (i : Int)) ∧ BoxAt w C F p1 (.pointer (some ⟨gx, 0, none⟩)) ∧ BoxAt w C F p2 (.int .i64 (who : Int)) ∧ BoxAt w C F p3 (.int .u64 (e : Int))
theorem PendE.gb {w w' : World} {C F C' F' S : Nat → Prop} {gx who : Nat} {v : Value} {s : ECall} (h : PendE w C F gx who v s) (k : GB w w' S) (hs : ∀ i, S i → C i ∨ ¬ F i ∨ w.heap.size ≤ i) (hc : ∀ i, i < w.heap.size → C' i → C i ∨ ¬ F i) (hf : ∀ i, F i → F' i) : PendE w' C' F' gx who v s := by
  cases s with
  | idle => exact h
  | begun op thing =>
    rcases h with ⟨e, p0, p1, h1, c0, c1⟩ | ⟨e, p0, p1, p2, p3, h1, c0, c1, c2, c3⟩
    · exact .inl ⟨e, p0, p1, h1, c0.gb k hs hc hf, c1.gb k hs hc hf⟩
    · exact .inr ⟨e, p0, p1, p2, p3, h1, c0.gb k hs hc hf, c1.gb k hs hc hf, c2.gb k hs hc hf, c3.gb k hs hc hf⟩
  | pinS old e =>
    obtain ⟨p0, p1, p2, p3, h1, c0, c1, c2, c3⟩ := h
    exact ⟨p0, p1, p2, p3, h1, c0.gb k hs hc hf, c1.gb k hs hc hf, c2.gb k hs hc hf, c3.gb k hs hc hf⟩
  | pinL e =>
    obtain ⟨p0, p1, p2, h1, c0, c1, c2⟩ := h
    exact ⟨p0, p1, p2, h1, c0.gb k hs hc hf, c1.gb k hs hc hf, c2.gb k hs hc hf⟩
  | look i e =>
    obtain ⟨p0, p1, p2, p3, h1, c0, c1, c2, c3⟩ := h
    exact ⟨p0, p1, p2, p3, h1, c0.gb k hs hc hf, c1.gb k hs hc hf, c2.gb k hs hc hf, c3.gb k hs hc hf⟩
/-- a list of things as a value -/
def HeldAt (w : World) (gw : Nat) (h : Value) (l : List (Int × Nat)) : Prop := ∃ B c, h = .slice B l.length c ∧ w.ownsRow (gw + 1) 127 2 (.slice B l.length c) l.length (things l)
/-- Epochs in memory; C: the blocks that are written; F: these, and the captured boxes -/
def EpAt (w : World) (C F : Nat → Prop) (gx gm n : Nat) (L : List AccE) (s : ESt) : Prop :=
  ∃ (Fm : Nat → Prop) (gw : Nat) (ws : List Nat) (ps : List WkV),
    MachAt w Fm gm ws 0 L ∧ WordsOk n ws s ∧
    w.heap[gx]? = some (.cells #[.pointer (some ⟨gm, 0, none⟩), .slice (some ⟨gw, 0, none⟩) n n] 113 (0, 0)) ∧
    w.heap[gw]? = some (.cells (wcells ps).toArray 120 (0, 0)) ∧ ps.length = n ∧
    (∀ (i : Nat) (v : WkV), ps[i]? = some v → PendE w C F gx i v.f (s.wk i).call ∧ v.p = (s.wk i).pinned ∧ HeldAt w gw v.h (s.wk i).held ∧ ∀ q, v.h.ownBlock = some q → C q ∧ ¬ Fm q ∧ q ≠ gx) ∧
    (∀ (i j : Nat) (vi vj : WkV) (q : Nat), ps[i]? = some vi → ps[j]? = some vj → vi.h.ownBlock = some q → vj.h.ownBlock = some q → i = j) ∧
    ¬ Fm gx ∧ ¬ Fm gw ∧ gx = gw + 1 ∧ C gx ∧ C gw ∧ (∀ i, Fm i → C i) ∧ (∀ i, C i → F i) ∧ ∀ i, F i → i < w.heap.size
def EpGo (w : World) (C F : Nat → Prop) (gx gm n : Nat) (L : List AccE) (s : ESt) (w' : World) : Prop :=
  ∃ C' F', EpAt w' C' F' gx gm n L s ∧ GB w w' C ∧ (∀ i, C' i → C i ∨ w.heap.size ≤ i) ∧ (∀ i, F i → F' i) ∧ ∀ i, F' i → F i ∨ w.heap.size ≤ i
theorem EpAt.lt {w : World} {C F : Nat → Prop} {gx gm n : Nat} {L : List AccE} {s : ESt} (h : EpAt w C F gx gm n L s) : ∀ i, F i → i < w.heap.size := by
  obtain ⟨_, _, _, _, _, _, _, _, _, _, _, _, _, _, _, _, _, _, h⟩ := h
  exact h
theorem EpAt.sub {w : World} {C F : Nat → Prop} {gx gm n : Nat} {L : List AccE} {s : ESt} (h : EpAt w C F gx gm n L s) : ∀ i, C i → F i := by
  obtain ⟨_, _, _, _, _, _, _, _, _, _, _, _, _, _, _, _, _, h, _⟩ := h
  exact h
theorem HeldAt.gb {w w' : World} {S : Nat → Prop} {gw : Nat} {v : Value} {l : List (Int × Nat)} (h : HeldAt w gw v l) (k : GB w w' S) (hs : ∀ q, v.ownBlock = some q → ¬ S q) : HeldAt w' gw v l := by
  obtain ⟨B, c, rfl, h2⟩ := h
  exact ⟨B, c, rfl, k.own h2 hs⟩
/-- nothing of it was touched -/
theorem EpAt.gb {w w' : World} {C F S : Nat → Prop} {gx gm n : Nat} {L : List AccE} {s : ESt} (h : EpAt w C F gx gm n L s) (k : GB w w' S) (hs : ∀ i, F i → ¬ S i) : EpAt w' C F gx gm n L s := by
  obtain ⟨Fm, gw, ws, ps, h1, h2, h3, h4, h5, h6, h7, h8, h9, h10, h11, h12, h13, h14, h15⟩ := h
  refine ⟨Fm, gw, ws, ps, h1.gb k (fun i hi => hs i (h14 i (h13 i hi))), h2, k.blk h3 (hs _ (h14 _ h11)), k.blk h4 (hs _ (h14 _ h12)), h5, fun i v hv => ?_, h7, h8, h9, h10, h11, h12, h13, h14, fun i hi => Nat.lt_of_lt_of_le (h15 i hi) k.size⟩
  obtain ⟨a, b, c, d⟩ := h6 i v hv
  exact ⟨a.gb k (fun i hi => .inr (.inl fun e => hs i e hi)) (fun i _ e => .inl e) (fun _ e => e), b, c.gb k (fun q e => hs q (h14 q (d q e).1)), d⟩
theorem EpAt.ext {w w' : World} {C F : Nat → Prop} {gx gm n : Nat} {L : List AccE} {s : ESt} (h : EpAt w C F gx gm n L s) (x : Ext w w') : EpAt w' C F gx gm n L s := h.gb (GB.of_ext (fun _ => False) x) (fun _ _ => id)
theorem EpGo.refl {w : World} {C F : Nat → Prop} {gx gm n : Nat} {L : List AccE} {s : ESt} (h : EpAt w C F gx gm n L s) : EpGo w C F gx gm n L s w := ⟨C, F, h, GB.refl w C, fun _ h => .inl h, fun _ h => h, fun _ h => .inl h⟩
theorem EpGo.ext {w w1 w2 : World} {C F : Nat → Prop} {gx gm n : Nat} {L : List AccE} {s : ESt} (h : EpGo w C F gx gm n L s w1) (x : Ext w1 w2) : EpGo w C F gx gm n L s w2 := by
  obtain ⟨C', F', h1, h2, h3, h4, h5⟩ := h
  exact ⟨C', F', h1.ext x, h2.ext x, h3, h4, h5⟩
theorem EpGo.back {w0 w w1 : World} {C F : Nat → Prop} {gx gm n : Nat} {L : List AccE} {s : ESt} (x : Ext w0 w) (h : EpGo w C F gx gm n L s w1) : EpGo w0 C F gx gm n L s w1 := by
  obtain ⟨C', F', h1, h2, h3, h4, h5⟩ := h
  exact ⟨C', F', h1, GB.back x h2, fun i hi => (h3 i hi).imp id (Nat.le_trans x.size), h4, fun i hi => (h5 i hi).imp id (Nat.le_trans x.size)⟩
theorem EpGo.trans {w w1 w2 : World} {C F C1 F1 : Nat → Prop} {gx gm n : Nat} {L : List AccE} {s : ESt} (g : GB w w1 C) (hC : ∀ i, C1 i → C i ∨ w.heap.size ≤ i) (hF : ∀ i, F i → F1 i) (hF1 : ∀ i, F1 i → F i ∨ w.heap.size ≤ i) (h : EpGo w1 C1 F1 gx gm n L s w2) : EpGo w C F gx gm n L s w2 := by
  obtain ⟨C', F', h1, h2, h3, h4, h5⟩ := h
  refine ⟨C', F', h1, g.trans h2 hC, fun i hi => ?_, fun i hi => h4 i (hF i hi), fun i hi => ?_⟩
  · rcases h3 i hi with h | h
    · exact hC i h
    · exact .inr (Nat.le_trans g.size h)
  · rcases h5 i hi with h | h
    · exact hF1 i h
    · exact .inr (Nat.le_trans g.size h)
/-- the machine goes on -/
theorem EpAt.mach {w : World} {C F : Nat → Prop} {gx gm n : Nat} {L : List AccE} {s : ESt} (h : EpAt w C F gx gm n L s) :
    ∃ Fm gw ws, MachAt w Fm gm ws 0 L ∧ WordsOk n ws s ∧ w.cell? ⟨gx, 0, none⟩ = some (.pointer (some ⟨gm, 0, none⟩)) ∧ w.cell? ⟨gx, 1, none⟩ = some (.slice (some ⟨gw, 0, none⟩) n n) ∧ (∀ i, Fm i → C i) ∧ ¬ Fm gx ∧ ¬ Fm gw ∧ C gw ∧
      ∀ ws' L' (s' : ESt) w', s'.wk = s.wk → WordsOk n ws' s' → MachGo w Fm gm ws' 0 L' w' → EpGo w C F gx gm n L' s' w' := by
  obtain ⟨Fm, gw, ws, ps, h1, h2, h3, h4, h5, h6, h7, h8, h9, h10, h11, h12, h13, h14, h15⟩ := h
  refine ⟨Fm, gw, ws, h1, h2, blk_cell h3 0, blk_cell h3 1, h13, h8, h9, h12, fun ws' L' s' w' hwk hws hgo => ?_⟩
  obtain ⟨Fm', m, g, f⟩ := hgo
  have hnew : ∀ q, q < w.heap.size → ¬ Fm q → ¬ Fm' q := fun q hq h e => by
    rcases f q e with f | f
    · exact h f
    · omega
  have hq : ∀ q, C q → q < w.heap.size := fun q hq => h15 q (h14 q hq)
  refine ⟨fun i => C i ∨ Fm' i, fun i => F i ∨ Fm' i, ⟨Fm', gw, ws', ps, m, hws, g.blk h3 h8, g.blk h4 h9, h5, fun i v hv => ?_, h7, hnew _ (hq _ h11) h8, hnew _ (hq _ h12) h9, h10, .inl h11, .inl h12, fun i hi => .inr hi, fun i hi => hi.imp (h14 i) id, fun i hi => ?_⟩, g.more (fun i _ hi => h13 i hi), fun i hi => ?_, fun i hi => .inl hi, fun i hi => ?_⟩
  · obtain ⟨a, b, c, d⟩ := h6 i v hv
    rw [hwk]
    refine ⟨a.gb g (fun i hi => .inl (h13 i hi)) (fun j hj e => ?_) (fun _ e => .inl e), b, c.gb g (fun q e => (d q e).2.1), fun q e => ⟨.inl (d q e).1, hnew q (hq q (d q e).1) (d q e).2.1, (d q e).2.2⟩⟩
    rcases e with e | e
    · exact .inl e
    · rcases f j e with f | f
      · exact .inl (h13 j f)
      · omega
  · rcases hi with hi | hi
    · exact Nat.lt_of_lt_of_le (h15 i hi) g.size
    · exact m.lt i hi
  · rcases hi with hi | hi
    · exact .inl hi
    · exact (f i hi).imp (h13 i) id
  · rcases hi with hi | hi
    · exact .inl hi
    · exact (f i hi).imp (fun e => h14 i (h13 i e)) id
/-- a worker's cells, and what they may become -/
theorem EpAt.wk {w : World} {C F : Nat → Prop} {gx gm n who : Nat} {L : List AccE} {s : ESt} (h : EpAt w C F gx gm n L s) (hw : who < n) :
    ∃ gw f B c, w.cell? ⟨gx, 1, none⟩ = some (.slice (some ⟨gw, 0, none⟩) n n) ∧ C gx ∧ C gw ∧ gx = gw + 1 ∧ w.cell? ⟨gw, who * 3, none⟩ = some f ∧ w.cell? ⟨gw, who * 3 + 1, none⟩ = some (.bool (s.wk who).pinned) ∧ w.cell? ⟨gw, who * 3 + 2, none⟩ = some (.slice B (s.wk who).held.length c) ∧
      (∀ j, w.frozen? ⟨gw, j, none⟩ = false) ∧ PendE w C F gx who f (s.wk who).call ∧ w.ownsRow (gw + 1) 127 2 (.slice B (s.wk who).held.length c) (s.wk who).held.length (things (s.wk who).held) ∧ (∀ q, (Value.slice B (s.wk who).held.length c).ownBlock = some q → C q) ∧
      (∀ f' c', PendE w C F gx who f' c' → EpGo w C F gx gm n L (s.put who { s.wk who with call := c' }) (w.setCell ⟨gw, who * 3, none⟩ f')) ∧
      (∀ b, EpGo w C F gx gm n L (s.put who { s.wk who with pinned := b }) (w.setCell ⟨gw, who * 3 + 1, none⟩ (.bool b))) := by
  obtain ⟨Fm, gw, ws, ps, h1, h2, h3, h4, h5, h6, h7, h8, h9, h10, h11, h12, h13, h14, h15⟩ := h
  obtain ⟨v, hv⟩ : ∃ v, ps[who]? = some v := ⟨_, List.getElem?_eq_getElem (by omega)⟩
  obtain ⟨a, b, ⟨B, c, hh, d⟩, e⟩ := h6 who v hv
  have hcell : ∀ j, j < 3 → w.cell? ⟨gw, who * 3 + j, none⟩ = v.cells[j]? := fun j hj => (blk_cell h4 _).trans (by rw [List.getElem?_toArray]; exact wcells_get hv j hj)
  have put : ∀ (u : WkV) (x : Value) (j : Nat) (k : EWk), j < 3 → v.cells.set j x = u.cells → u.h = v.h → PendE w C F gx who u.f k.call → u.p = k.pinned → k.held = (s.wk who).held → EpGo w C F gx gm n L (s.put who k) (w.setCell ⟨gw, who * 3 + j, none⟩ x) := fun u x j k hj hx hh2 hpe hpp hkh => by
    have gs : GB w (w.setCell ⟨gw, who * 3 + j, none⟩ x) (· = gw) := (GB.refl w (· = gw)).set gw _ _ (.inl rfl)
    have hown : ∀ (i : Nat) (y : WkV), ps[i]? = some y → ∀ q, y.h.ownBlock = some q → q ≠ gw := fun i y hy q hq e => by
      obtain ⟨_, _, ⟨B, c, hh, d⟩, _⟩ := h6 i y hy
      rw [hh] at hq
      have := (d.lt q hq).1
      omega
    have hget : ∀ (i : Nat) (y : WkV), (ps.set who u)[i]? = some y → (i = who ∧ y = u) ∨ (i ≠ who ∧ ps[i]? = some y) := fun i y hy => by
      by_cases e : i = who
      · subst e
        rw [List.getElem?_set_self (by omega)] at hy
        injection hy with hy
        exact .inl ⟨rfl, hy.symm⟩
      · rw [List.getElem?_set_ne (fun h => e h.symm)] at hy
        exact .inr ⟨e, hy⟩
    refine ⟨C, F, ⟨Fm, gw, ws, ps.set who u, h1.gb gs (fun i hi e => h9 (e ▸ hi)), h2, gs.blk h3 (by omega), ?_, by simpa using h5, fun i y hy => ?_, fun i j vi vj q hi hj hqi hqj => ?_, h8, h9, h10, h11, h12, h13, h14, fun i hi => by simpa using h15 i hi⟩, (GB.refl w C).set gw _ _ (.inl h12), fun _ h => .inl h, fun _ h => h, fun _ h => .inl h⟩
    · rw [← wcells_arr hv hj hx]
      exact blk_set h4 _ _
    · rcases hget i y hy with ⟨rfl, rfl⟩ | ⟨hne, hy⟩
      · rw [put_self]
        refine ⟨hpe.gb gs (fun j e => .inl (e ▸ h12)) (fun _ _ e => .inl e) (fun _ e => e), hpp, ?_, fun q hq => e q (hh2 ▸ hq)⟩
        rw [hkh, hh2]
        exact HeldAt.gb ⟨B, c, hh, d⟩ gs (fun q hq => hown i v hv q hq)
      · rw [put_other s k hne]
        obtain ⟨a', b', c', d'⟩ := h6 i y hy
        exact ⟨a'.gb gs (fun j e => .inl (e ▸ h12)) (fun _ _ e => .inl e) (fun _ e => e), b', c'.gb gs (hown i y hy), d'⟩
    · have h9' : ∀ (i : Nat) (y : WkV), (ps.set who u)[i]? = some y → ∃ y', ps[i]? = some y' ∧ y'.h = y.h := fun i y hy => by
        rcases hget i y hy with ⟨rfl, rfl⟩ | ⟨_, hy⟩
        · exact ⟨v, hv, hh2.symm⟩
        · exact ⟨y, hy, rfl⟩
      obtain ⟨yi, ei, ei2⟩ := h9' i vi hi
      obtain ⟨yj, ej, ej2⟩ := h9' j vj hj
      exact h7 i j yi yj q ei ej (ei2 ▸ hqi) (ej2 ▸ hqj)
  refine ⟨gw, v.f, B, c, blk_cell h3 1, h11, h12, h10, (hcell 0 (by omega)).trans rfl, (hcell 1 (by omega)).trans (by rw [← b]; rfl), (hcell 2 (by omega)).trans (by rw [← hh]; rfl), fun j => blk_frozen h4 j, a, d, fun q hq => (e q (hh ▸ hq)).1, fun f' c' hp => ?_, fun bb => ?_⟩
  · exact put ⟨f', v.p, v.h⟩ f' 0 _ (by omega) rfl rfl hp b rfl
  · exact put ⟨v.f, bb, v.h⟩ (.bool bb) 1 _ (by omega) rfl rfl a rfl rfl
theorem EpAt.x1 {w : World} {C F : Nat → Prop} {gx gm n : Nat} {L : List AccE} {s : ESt} (h : EpAt w C F gx gm n L s) : ∃ gw, w.cell? ⟨gx, 1, none⟩ = some (.slice (some ⟨gw, 0, none⟩) n n) := by
  obtain ⟨_, gw, _, _, _, _, h3, _⟩ := h
  exact ⟨gw, blk_cell h3 1⟩
theorem eworker_ok (w : World) (gx n who gw : Nat) (h : w.cell? ⟨gx, 1, none⟩ = some (.slice (some ⟨gw, 0, none⟩) n n)) (hw : who < n) :
    Calls Try.prog 52 #[.pointer (some ⟨gx, 0, none⟩), .int .i64 (who : Int)] w fun e w' => e = .returned (.pointer (some ⟨gw, who * 3, none⟩)) ∧ w = w' := by
  go_enter Try.func52, Try.ntmps52
  go_wp2
  go_ret
  exact ⟨rfl, rfl⟩
theorem eworker_bad (w : World) (gx n gw : Nat) (who : Int) (h : w.cell? ⟨gx, 1, none⟩ = some (.slice (some ⟨gw, 0, none⟩) n n)) (hb : ¬ (0 ≤ who ∧ who < (n : Int))) :
    Calls Try.prog 52 #[.pointer (some ⟨gx, 0, none⟩), .int .i64 who] w fun e w' => e = .returned (.pointer none) ∧ w = w' := by
  by_cases h0 : who < 0
  · clear hb
    go_enter Try.func52, Try.ntmps52
    go_wp2
    go_ret
    exact ⟨rfl, rfl⟩
  · have h1 : (n : Int) ≤ who := by omega
    clear hb
    go_enter Try.func52, Try.ntmps52
    go_wp2
    go_ret
    exact ⟨rfl, rfl⟩
theorem eworker_nil (w : World) (who : Int) :
    Calls Try.prog 52 #[.pointer none, .int .i64 who] w fun e w' => e = .returned (.pointer none) ∧ w = w' := by
  go_enter Try.func52, Try.ntmps52
  go_wp2
  go_ret
  exact ⟨rfl, rfl⟩
end Go.Proofs.Ytlgggeeflomelaa
