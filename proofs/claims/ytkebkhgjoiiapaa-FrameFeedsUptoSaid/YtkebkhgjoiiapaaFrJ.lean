/- FrameFeeds: both readers side by side. -/
import Derived.Test.YtkebkhgjoiiapaaFrI
namespace Go.Proofs.Ytkebkhgjoiiapaa
open Go.RowKit

/-- the reader r and the document's d, behind the same bytes -/
structure FdAt (w0 w : World) (r d : Nat) (D S : Nat → Prop) (all ws : List Nat) (told : Nat) (cl : Bool) (K : Nat) : Prop where
  doc : IsDoc w w0.heap.size d D all told cl
  rdr : IsRdr w r ws cl S
  out : Ext w0 w
  rge : w0.heap.size ≤ r
  rD : ¬ D r
  rS : ¬ S r
  sb : ∀ b, S b → w0.heap.size ≤ b ∧ b < w.heap.size ∧ ¬ D b
  by_ : ∀ x ∈ all, x < 256
  len : all.length ≤ K
  op : cl = false → ws = (parse all).2.1 ∧ told = (parse all).1.length ∧ (parse all).2.2 = false
  shut : cl = true → ws = []
variable {w0 w w' : World} {r d told K : Nat} {D S : Nat → Prop} {all ws : List Nat} {cl : Bool}
theorem IsRdr.gb {M : Nat → Prop} (h : IsRdr w r ws cl S) (g : GB w w' M) (hr : ¬ M r) (hs : ∀ b, S b → ¬ M b) : IsRdr w' r ws cl S := by
  obtain ⟨A, n, c, h1, h2, h3, h4, h5⟩ := h
  exact ⟨A, n, c, g.blk h1 hr, h2, h3, g.rd h4 (fun p hp => hs _ (h5 p hp)), h5⟩
theorem FdAt.gb {M : Nat → Prop} (h : FdAt w0 w r d D S all ws told cl K) (g : GB w w' M) (hM : ∀ i, M i → ¬ D i ∧ i ≠ r ∧ ¬ S i ∧ w0.heap.size ≤ i) : FdAt w0 w' r d D S all ws told cl K :=
  ⟨h.doc.gb g (fun i hi e => (hM i e).1 hi), h.rdr.gb g (fun e => (hM r e).2.1 rfl) (fun b hb e => (hM b e).2.2.1 hb), g.to_ext h.out (fun i e => (hM i e).2.2.2), h.rge, h.rD, h.rS, fun b hb => ⟨(h.sb b hb).1, Nat.lt_of_lt_of_le (h.sb b hb).2.1 g.size, (h.sb b hb).2.2⟩, h.by_, h.len, h.op, h.shut⟩
theorem FdAt.ext (h : FdAt w0 w r d D S all ws told cl K) (x : Ext w w') : FdAt w0 w' r d D S all ws told cl K := h.gb (GB.of_ext (fun _ => False) x) (fun _ e => e.elim)
theorem FdAt.more {K' : Nat} (h : FdAt w0 w r d D S all ws told cl K) (hK : K ≤ K') : FdAt w0 w r d D S all ws told cl K' := ⟨h.doc, h.rdr, h.out, h.rge, h.rD, h.rS, h.sb, h.by_, Nat.le_trans h.len hK, h.op, h.shut⟩
theorem FdAt.rlt (h : FdAt w0 w r d D S all ws told cl K) : r < w.heap.size := by
  obtain ⟨A, n, c, h1, _⟩ := h.rdr
  exact blk_lt h1
theorem FdAt.dlt (h : FdAt w0 w r d D S all ws told cl K) : ∀ i, D i → w0.heap.size ≤ i ∧ i < w.heap.size := by
  obtain ⟨A, n, c, _, _, _, _, _, h6⟩ := h.doc
  exact h6
theorem FdAt.left (h : FdAt w0 w r d D S all ws told false K) : ws = leftF all := by
  obtain ⟨h1, _, h3⟩ := h.op rfl
  unfold leftF
  rw [if_neg (by rw [h3]; simp)]
  exact h1
/-- both have taken xs -/
theorem FdAt.feed {w6 w7 : World} {S' : Nat} {D' : Nat → Prop} {xs : List Nat} (h : FdAt w0 w r d D S all ws told false K) (hx : ∀ x ∈ xs, x < 256) (hr : IsRdr w6 r (leftF (ws ++ xs)) (parse (ws ++ xs)).2.2 (fun b => w.heap.size ≤ b ∧ b < S')) (hg : w.grownBy w6 (some r)) (hS : w.heap.size ≤ S' ∧ S' ≤ w6.heap.size)
    (hd : IsDoc w7 w0.heap.size d D' (all ++ xs) (parse (all ++ xs)).1.length (parse (all ++ xs)).2.2) (g : GB w6 w7 D) (hD : ∀ i, D' i → D i ∨ w6.heap.size ≤ i) :
    FdAt w0 w7 r d D' (fun b => w.heap.size ≤ b ∧ b < S') (all ++ xs) (leftF (ws ++ xs)) (parse (all ++ xs)).1.length (parse (all ++ xs)).2.2 (K + xs.length) := by
  have hst := parse_step (xs := all) (ys := xs) (h.op rfl).2.2
  rw [← h.left] at hst
  obtain ⟨e1, e2, e3, e4⟩ := hst
  have hr6 := h.rlt
  have g6 : GB w w6 (· = r) := (GB.refl w _).grown hg (fun q e => .inl (by injection e with e; exact e.symm))
  have hsz := h.out.size
  have gsz := g.size
  refine ⟨hd, ?_, g.to_ext (g6.to_ext h.out (fun i e => e ▸ h.rge)) (fun i e => (h.dlt i e).1), h.rge, fun e => ?_, fun e => by omega, fun b hb => ⟨by omega, by omega, fun e => ?_⟩, fun x hx' => (List.mem_append.1 hx').elim (h.by_ x) (hx x), by rw [List.length_append]; have := h.len; omega, fun e => ?_, fun e => ?_⟩
  · rw [e4]
    exact hr.gb g h.rD (fun b hb e => by have := (h.dlt b e).2; omega)
  · rcases hD r e with e | e
    · exact h.rD e
    · have := g6.size; omega
  · rcases hD b e with e | e
    · have := (h.dlt b e).2; omega
    · omega
  · refine ⟨?_, rfl, e⟩
    rw [← e3]
    unfold leftF
    rw [if_neg (by rw [e]; simp)]
  · rw [← e3]
    unfold leftF
    rw [if_pos e]
/-- the list of payloads, from j on as it was; gs: its rows' blocks, hb: its own -/
def PLt (w : World) (base hb n c j : Nat) (pss : List (List Nat)) (gs : List Nat) : Prop :=
  ∃ vs, w.ownsRow base 22 1 (.slice (some ⟨hb, 0, none⟩) n c) n vs ∧ ∀ i, j ≤ i → ∀ ps, pss[i]? = some ps → ∃ g ci : Nat, gs[i]? = some g ∧ g ≠ hb ∧ vs[i]? = some (Value.slice (some ⟨g, 0, none⟩) ps.length ci) ∧ w.ownsRow base 5 1 (.slice (some ⟨g, 0, none⟩) ps.length ci) ps.length (vals .u8 ps)
theorem PL.toT {base n c : Nat} {A : Option Addr} {pss : List (List Nat)} (h : PL w base A n c pss) (hn : 0 < n) :
    ∃ hb gs, A = some ⟨hb, 0, none⟩ ∧ (base ≤ hb ∧ hb < w.heap.size) ∧ gs.Pairwise (· < ·) ∧ (∀ g ∈ gs, g < w.heap.size) ∧ PLt w base hb n c 0 pss gs := by
  obtain ⟨hl, vs, gs, ho, h1, h2, h3, h4⟩ := h
  have ho' := ho
  rcases ho.2 with ⟨_, e⟩ | ⟨hb, cap, cur, e, hbb, hg, hnc, _⟩
  · omega
  · injection e with e _ e3
    subst e e3
    refine ⟨hb, gs, rfl, ⟨hbb, blk_lt hg⟩, h2, h3, vs, ho', fun i _ ps hi => ?_⟩
    obtain ⟨g, ci, k1, k2, k3⟩ := h4 i ps hi
    refine ⟨g, ci, k1, fun e => ?_, k2, k3⟩
    rcases own_types k3 ho' (by decide) with e2 | e2
    · cases e2
    · exact e2 (by rw [e]; rfl)
/-- one more was written -/
theorem PLt.next {base hb n c j : Nat} {pss : List (List Nat)} {gs : List Nat} {g : Nat} {M : Nat → Prop} {vs : List Value} {u : Value} (h2 : ∀ i, j ≤ i → ∀ ps, pss[i]? = some ps → ∃ g ci : Nat, gs[i]? = some g ∧ g ≠ hb ∧ vs[i]? = some (Value.slice (some ⟨g, 0, none⟩) ps.length ci) ∧ w.ownsRow base 5 1 (.slice (some ⟨g, 0, none⟩) ps.length ci) ps.length (vals .u8 ps))
    (hp : gs.Pairwise (· < ·)) (hg : gs[j]? = some g) (gb : GB w w' M) (hM : ∀ i, M i → i = g ∨ i = hb) (ho : w'.ownsRow base 22 1 (.slice (some ⟨hb, 0, none⟩) n c) n (vs.set j u)) : PLt w' base hb n c (j + 1) pss gs := by
  refine ⟨_, ho, fun i hi ps hps => ?_⟩
  obtain ⟨x, ci, k1, k2, k3, k4⟩ := h2 i (by omega) ps hps
  refine ⟨x, ci, k1, k2, ?_, gb.own k4 (fun q e e2 => ?_)⟩
  · rw [List.getElem?_set_ne (by omega)]; exact k3
  · injection e with e
    subst e
    have hlt : g < x := by
      obtain ⟨a1, a2⟩ := List.getElem?_eq_some_iff.1 hg
      obtain ⟨b1, b2⟩ := List.getElem?_eq_some_iff.1 k1
      have := List.pairwise_iff_getElem.1 hp j i a1 b1 (by omega)
      omega
    rcases hM x e2 with e3 | e3
    · omega
    · exact k2 e3
theorem PLt.gbn {base hb n c j : Nat} {pss : List (List Nat)} {gs : List Nat} {M : Nat → Prop} (h : PLt w base hb n c j pss gs) (gb : GB w w' M) (hM : ∀ i, M i → i < base) : PLt w' base hb n c j pss gs := by
  obtain ⟨vs, h1, h2⟩ := h
  refine ⟨vs, gb.own h1 (fun q e e2 => by have := (h1.lt q e).1; have := hM q e2; omega), fun i hi ps hps => ?_⟩
  obtain ⟨x, ci, k1, k2, k3, k4⟩ := h2 i hi ps hps
  exact ⟨x, ci, k1, k2, k3, gb.own k4 (fun q e e2 => by have := (k4.lt q e).1; have := hM q e2; omega)⟩
/-- a row of bytes of one's own -/
def ByteRow (w : World) (base : Nat) (v : Value) (n : Nat) : Prop := ∃ ys : List Nat, (∀ y ∈ ys, y < 256) ∧ w.ownsRow base 5 1 v n (vals .u8 ys)
theorem ByteRow.elem {base n c g m : Nat} (h : ByteRow w base (.slice (some ⟨g, 0, none⟩) n c) n) (hm : m < n) : ∃ y : Nat, y < 256 ∧ w.cell? ⟨g, m, none⟩ = some (.int .u8 (y : Int)) ∧ w.frozen? ⟨g, m, none⟩ = false := by
  obtain ⟨ys, hy, h⟩ := h
  have hl := h.1
  rw [vals_len] at hl
  have hlt : m < ys.length := by omega
  refine ⟨ys[m], hy _ (List.getElem_mem hlt), ?_, h.frozenAt m⟩
  rw [World.ownsRow.cellAt h m (by omega)]
  exact vals_get (List.getElem?_eq_getElem hlt)
theorem ByteRow.set {base n c g : Nat} (h : ByteRow w base (.slice (some ⟨g, 0, none⟩) n c) n) (m z : Nat) (hz : z < 256) : ByteRow (w.setCell ⟨g, m, none⟩ (.int .u8 (z : Int))) base (.slice (some ⟨g, 0, none⟩) n c) n := by
  obtain ⟨ys, hy, h⟩ := h
  refine ⟨ys.set m z, fun y hy' => ?_, by rw [vals_set]; exact (h.stored m _).1⟩
  rcases List.mem_or_eq_of_mem_set hy' with h9 | h9
  · exact hy y h9
  · rw [h9]; exact hz
theorem xor_u8 (a k : Nat) (ha : a < 256) (hk : k < 256) : ∃ z : Nat, z < 256 ∧ bits .xor .u8 (a : Int) (k : Int) = (z : Int) :=
  ⟨a ^^^ k, Nat.xor_lt_two_pow (n := 8) ha hk, Go.u8_xor_nat a k ha hk⟩
/-- what FrameFeeds keeps from round to round -/
def FeedAt (w0 : World) (r d K : Nat) (w : World) : Prop := ∃ D S all ws told cl, FdAt w0 w r d D S all ws told cl K
/-- and in the middle of a round: the whole of the piece -/
def FeedF (w0 : World) (r d K F m cF : Nat) (w : World) : Prop := ∃ D S all ws told cl, FdAt w0 w r d D S all ws told cl K ∧ ByteRow w w0.heap.size (.slice (some ⟨F, 0, none⟩) m cF) m ∧ ¬ D F ∧ ¬ S F ∧ F ≠ r
theorem FeedAt.ext (h : FeedAt w0 r d K w) (x : Ext w w') : FeedAt w0 r d K w' := by
  obtain ⟨D, S, all, ws, told, cl, h⟩ := h
  exact ⟨D, S, all, ws, told, cl, h.ext x⟩
theorem FeedAt.out (h : FeedAt w0 r d K w) : Ext w0 w := by
  obtain ⟨D, S, all, ws, told, cl, h⟩ := h
  exact h.out
theorem FeedF.out {F m cF : Nat} (h : FeedF w0 r d K F m cF w) : FeedAt w0 r d K w := by
  obtain ⟨D, S, all, ws, told, cl, h, _⟩ := h
  exact ⟨D, S, all, ws, told, cl, h⟩
theorem FeedF.set {F m cF : Nat} (h : FeedF w0 r d K F m cF w) (i z : Nat) (hz : z < 256) (hF : w0.heap.size ≤ F) : FeedF w0 r d K F m cF (w.setCell ⟨F, i, none⟩ (.int .u8 (z : Int))) := by
  obtain ⟨D, S, all, ws, told, cl, h, hb, h1, h2, h3⟩ := h
  have g : GB w (w.setCell ⟨F, i, none⟩ (.int .u8 (z : Int))) (· = F) := (GB.refl w _).set F i _ (.inl rfl)
  exact ⟨D, S, all, ws, told, cl, h.gb g (fun j e => by subst e; exact ⟨h1, h3, h2, hF⟩), hb.set i z hz, h1, h2, h3⟩
theorem FeedF.elem {F m cF i : Nat} (h : FeedF w0 r d K F m cF w) (hi : i < m) : ∃ y : Nat, y < 256 ∧ w.cell? ⟨F, i, none⟩ = some (.int .u8 (y : Int)) ∧ w.frozen? ⟨F, i, none⟩ = false := by
  obtain ⟨D, S, all, ws, told, cl, h, hb, _⟩ := h
  exact hb.elem hi
end Go.Proofs.Ytkebkhgjoiiapaa
