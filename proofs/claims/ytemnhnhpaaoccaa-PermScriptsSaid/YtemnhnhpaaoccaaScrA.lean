/- PermScripts: what is kept from round to round. -/
import Derived.Test.YtemnhnhpaaoccaaPermN
namespace Go.Proofs.Ytemnhnhpaaoccaa
open Go.RowKit

/-- nothing that was there has turned, but for the blocks of S -/
structure GB (w w' : World) (S : Nat → Prop) : Prop where
  os : w'.os = w.os
  tape : w'.tape = w.tape
  output : w'.output = w.output
  size : w.heap.size ≤ w'.heap.size
  block : ∀ i, i < w.heap.size → ¬ S i → w'.heap[i]? = w.heap[i]?
theorem GB.of_ext {w w' : World} (S : Nat → Prop) (h : Ext w w') : GB w w' S := ⟨h.os, h.tape, h.output, h.size, fun i hi _ => h.block i hi⟩
theorem GB.grown {w a b : World} {S : Nat → Prop} {row : Option Nat} (h : GB w a S) (k : a.grownBy b row) (hr : ∀ q, row = some q → S q ∨ w.heap.size ≤ q) : GB w b S :=
  ⟨k.os.trans h.os, k.tape.trans h.tape, k.output.trans h.output, Nat.le_trans h.size k.size, fun i hi hs => (k.block i (Nat.lt_of_lt_of_le hi h.size) (fun e => by
    rcases hr i e.symm with h' | h'
    · exact hs h'
    · omega)).trans (h.block i hi hs)⟩
theorem GB.ext {w a b : World} {S : Nat → Prop} (h : GB w a S) (k : Ext a b) : GB w b S := h.grown (row := none) (grown_none k none) (fun q e => by cases e)
theorem GB.alloc {w a : World} {S : Nat → Prop} (h : GB w a S) (o : Obj) : GB w (a.alloc o) S := h.ext ((Ext.refl a).alloc o)
theorem GB.cell {w a : World} {S : Nat → Prop} (h : GB w a S) {p : Addr} {v : Value} (hc : w.cell? p = some v) (hp : ¬ S p.block) : a.cell? p = some v :=
  (World.cell?_of_block (h.block p.block (World.block_lt_of_cell? w p hc) hp)).trans hc
theorem GB.blk {w a : World} {S : Nat → Prop} (h : GB w a S) {g : Nat} {o : Obj} (hc : w.heap[g]? = some o) (hp : ¬ S g) : a.heap[g]? = some o := (h.block g (blk_lt hc) hp).trans hc
theorem GB.to_ext {w0 w a : World} {S : Nat → Prop} (h : GB w a S) (k : Ext w0 w) (hs : ∀ i, S i → w0.heap.size ≤ i) : Ext w0 a :=
  ⟨h.os.trans k.os, h.tape.trans k.tape, h.output.trans k.output, Nat.le_trans k.size h.size, fun i hi => (h.block i (Nat.lt_of_lt_of_le hi k.size) (fun e => by have := hs i e; omega)).trans (k.block i hi)⟩
/-- a list in memory that is not written -/
def Lst (w : World) (F : Nat → Prop) (A : Option Addr) (L : List Int) : Prop := Rd w A (ivals L) ∧ ∀ a, A = some a → a.block < w.heap.size ∧ ¬ F a.block
theorem Lst.gb {w w' : World} {F S : Nat → Prop} {A : Option Addr} {L : List Int} (h : Lst w F A L) (k : GB w w' S) (hs : ∀ i, S i → F i) : Lst w' F A L := by
  refine ⟨fun hne => ?_, fun a ha => ⟨Nat.lt_of_lt_of_le (h.2 a ha).1 k.size, (h.2 a ha).2⟩⟩
  obtain ⟨b, off, hA, hc⟩ := h.1 hne
  exact ⟨b, off, hA, fun j u hu => k.cell (hc j u hu) (fun e => (h.2 _ hA).2 (hs _ e))⟩
theorem Lst.ext {w w' : World} {F : Nat → Prop} {A : Option Addr} {L : List Int} (h : Lst w F A L) (k : Ext w w') : Lst w' F A L := h.gb (GB.of_ext (fun _ => False) k) (fun _ e => e.elim)
theorem Lst.more {w : World} {F F' : Nat → Prop} {A : Option Addr} {L : List Int} (h : Lst w F A L) (hf : ∀ i, i < w.heap.size → F' i → F i) : Lst w F' A L :=
  ⟨h.1, fun a ha => ⟨(h.2 a ha).1, fun e => (h.2 a ha).2 (hf _ (h.2 a ha).1 e)⟩⟩
theorem Lst.own {w w' : World} {F : Nat → Prop} {A : Option Addr} {L : List Int} {m c : Nat} (h : w'.ownsRow w.heap.size 2 1 (.slice A m c) m (ivals L)) (hf : ∀ i, F i → i < w.heap.size) : Lst w' F A L :=
  ⟨Rd.of_own h, fun a ha => ⟨own_lt h a ha, fun e => by have := own_ge h a.block (by rw [ha]; rfl); have := hf _ e; omega⟩⟩
/-- what was handed to before, and to counts -/
def rowsV (p : Int) (R : List (Option Addr × Nat × Nat)) : List Value := R.flatMap fun r => [.int .i64 p, .slice r.1 r.2.1 r.2.2]
def cntV (R : List (Option Addr × Nat × Nat)) : List Value := R.map fun r => .int .i64 (r.2.1 : Int)
theorem rowsV_snoc (p : Int) (R : List (Option Addr × Nat × Nat)) (r : Option Addr × Nat × Nat) : rowsV p (R ++ [r]) = rowsV p R ++ [.int .i64 p, .slice r.1 r.2.1 r.2.2] := by simp [rowsV]
theorem cntV_snoc (R : List (Option Addr × Nat × Nat)) (r : Option Addr × Nat × Nat) : cntV (R ++ [r]) = cntV R ++ [.int .i64 (r.2.1 : Int)] := by simp [cntV]
theorem rowsV_len (p : Int) (R : List (Option Addr × Nat × Nat)) : (rowsV p R).length = R.length * 2 := by
  induction R with
  | nil => rfl
  | cons r R ih => simp [rowsV] at ih ⊢; omega
theorem rowsV_get (p : Int) : ∀ (R : List (Option Addr × Nat × Nat)) (i : Nat) (r : Option Addr × Nat × Nat), R[i]? = some r → (rowsV p R)[2 * i]? = some (.int .i64 p) ∧ (rowsV p R)[2 * i + 1]? = some (.slice r.1 r.2.1 r.2.2)
  | [], i, r, h => by simp at h
  | x :: R, 0, r, h => by
    simp at h
    subst h
    simp [rowsV]
  | x :: R, i + 1, r, h => by
    have := rowsV_get p R i r (by simpa using h)
    have e : rowsV p (x :: R) = .int .i64 p :: .slice x.1 x.2.1 x.2.2 :: rowsV p R := by simp [rowsV]
    rw [e]
    exact ⟨by rw [show 2 * (i + 1) = 2 * i + 1 + 1 by omega]; exact this.1, by rw [show 2 * (i + 1) + 1 = 2 * i + 1 + 1 + 1 by omega]; exact this.2⟩
/-- what holds ahead of round k -/
def ScrInv (w : World) (g : Nat) (p : Int) (k : Nat) (v7 v8 v9 : Value) (wr : World) : Prop :=
  ∃ (L : List Int) (As Ah : Option Addr) (cs ch m : Nat) (B C : Option Addr) (cB cC : Nat) (R : List (Option Addr × Nat × Nat)) (F : Nat → Prop),
    L.length = m ∧ Form p L ∧ wr.heap[g]? = some (.cells #[.int .i64 p, .slice As m cs] 26 (0, 0)) ∧ v9 = .slice Ah m ch ∧ Lst wr F As L ∧ Lst wr F Ah L ∧ v7 = .slice B k cB ∧ v8 = .slice C k cC ∧
    wr.ownsRow (g + 1) 26 2 (.slice B k cB) k (rowsV p R) ∧ wr.ownsRow (g + 1) 3 1 (.slice C k cC) k (cntV R) ∧ R.length = k ∧
    (∀ r ∈ R, ∃ Lr, Lr.length = r.2.1 ∧ Form p Lr ∧ Lst wr F r.1 Lr) ∧ F g ∧ (∀ i, F i → g ≤ i ∧ i < wr.heap.size) ∧ (∀ q, (Value.slice B k cB).ownBlock = some q → F q) ∧ (∀ q, (Value.slice C k cC).ownBlock = some q → F q) ∧
    (∀ q, (Value.slice B k cB).ownBlock = some q → (Value.slice C k cC).ownBlock ≠ some q) ∧ Ext w wr
theorem ScrInv.ext {w wr w' : World} {g k : Nat} {p : Int} {v7 v8 v9 : Value} (h : ScrInv w g p k v7 v8 v9 wr) (x : Ext wr w') : ScrInv w g p k v7 v8 v9 w' := by
  obtain ⟨L, As, Ah, cs, ch, m, B, C, cB, cC, R, F, h1, h2, h3, h4, h5, h6, h7, h8, h9, h10, h11, h12, h13, h14, h15, h16, h17, h18⟩ := h
  exact ⟨L, As, Ah, cs, ch, m, B, C, cB, cC, R, F, h1, h2, blk_ext h3 x, h4, h5.ext x, h6.ext x, h7, h8, own_ext h9 x, own_ext h10 x, h11, fun r hr => by
    obtain ⟨Lr, k1, k2, k3⟩ := h12 r hr
    exact ⟨Lr, k1, k2, k3.ext x⟩, h13, fun i hi => ⟨(h14 i hi).1, Nat.lt_of_lt_of_le (h14 i hi).2 x.size⟩, h15, h16, h17, h18.trans x⟩
theorem own_kept {w z : World} {base g : Nat} {e : TypeId} {size : Nat} {v : Value} {n : Nat} {xs : List Value} (h : w.ownsRow base e size v n xs) (hg : w.grownBy z (some g)) (hb : g < base) : z.ownsRow base e size v n xs := by
  refine h.kept hg ?_
  cases hv : v.ownBlock with
  | none => exact .inl rfl
  | some q =>
    refine .inr fun e => ?_
    injection e with e
    have := h.lt q hv
    omega
/-- behind a store of another semaphore -/
theorem ScrInv.store {w wr u : World} {g k m' cs' ch' : Nat} {p : Int} {v7 v8 v9 : Value} {L' : List Int} {As' Ah' : Option Addr} (h : ScrInv w g p k v7 v8 v9 wr) (hg : w.heap.size ≤ g) (x : Ext wr u)
    (hl : L'.length = m') (hF : Form p L') (hA : ∀ a, As' = some a → wr.heap.size ≤ a.block ∧ a.block < u.heap.size) (hH : ∀ a, Ah' = some a → wr.heap.size ≤ a.block ∧ a.block < u.heap.size) (rA : Rd u As' (ivals L')) (rH : Rd u Ah' (ivals L')) :
    ScrInv w g p k v7 v8 (.slice Ah' m' ch') ((u.setCell ⟨g, 0, none⟩ (.int .i64 p)).setCell ⟨g, 1, none⟩ (.slice As' m' cs')) := by
  obtain ⟨L, As, Ah, cs, ch, m, B, C, cB, cC, R, F, h1, h2, h3, h4, h5, h6, h7, h8, h9, h10, h11, h12, h13, h14, h15, h16, h17, h18⟩ := h
  have hG := grown2 u g (.int .i64 p) (.slice As' m' cs')
  have hgu : g < u.heap.size := blk_lt (blk_ext h3 x)
  have hgw : g < wr.heap.size := blk_lt h3
  have hB : GB u ((u.setCell ⟨g, 0, none⟩ (.int .i64 p)).setCell ⟨g, 1, none⟩ (.slice As' m' cs')) (fun i => i = g) := (GB.of_ext _ (Ext.refl u)).grown hG (fun q e => .inl (by injection e with e; exact e.symm))
  have hS : ∀ i, (fun i => i = g) i → F i := fun i e => by
    have e : i = g := e
    rw [e]; exact h13
  have nl : ∀ (A : Option Addr), (∀ a, A = some a → wr.heap.size ≤ a.block ∧ a.block < u.heap.size) → Rd u A (ivals L') → Lst u F A L' := fun A h1 h2 => ⟨h2, fun a ha => ⟨(h1 a ha).2, fun e => by have := (h14 _ e).2; have := (h1 a ha).1; omega⟩⟩
  refine ⟨L', As', Ah', cs', ch', m', B, C, cB, cC, R, F, hl, hF, row2 (blk_ext h3 x) _ _, rfl, (nl As' hA rA).gb hB hS, (nl Ah' hH rH).gb hB hS, h7, h8, own_kept (own_ext h9 x) hG (by omega), own_kept (own_ext h10 x) hG (by omega), h11, fun r hr => ?_, h13, fun i hi => ⟨(h14 i hi).1, ?_⟩, h15, h16, h17, ext_row2 (h18.trans x) hg _ _⟩
  · obtain ⟨Lr, k1, k2, k3⟩ := h12 r hr
    exact ⟨Lr, k1, k2, (k3.ext x).gb hB hS⟩
  · have := (h14 i hi).2
    have := x.size
    have := hB.size
    omega
/-- behind the two appends -/
theorem ScrInv.app {w W z : World} {g k cs ch m cB cC cB' cC' : Nat} {p : Int} {L : List Int} {As Ah B C B' C' : Option Addr} {R : List (Option Addr × Nat × Nat)} {F : Nat → Prop} (hg : w.heap.size ≤ g)
    (h1 : L.length = m) (h2 : Form p L) (h3 : W.heap[g]? = some (.cells #[.int .i64 p, .slice As m cs] 26 (0, 0))) (h5 : Lst W F As L) (h6 : Lst W F Ah L) (h11 : R.length = k)
    (h12 : ∀ r ∈ R, ∃ Lr, Lr.length = r.2.1 ∧ Form p Lr ∧ Lst W F r.1 Lr) (h13 : F g) (h14 : ∀ i, F i → g ≤ i ∧ i < W.heap.size) (h15 : ∀ q, (Value.slice B k cB).ownBlock = some q → F q) (h16 : ∀ q, (Value.slice C k cC).ownBlock = some q → F q)
    (h9 : W.ownsRow (g + 1) 26 2 (.slice B k cB) k (rowsV p R)) (h10 : W.ownsRow (g + 1) 3 1 (.slice C k cC) k (cntV R)) (h18 : Ext w W)
    (hB : GB W z (fun i => (Value.slice B k cB).ownBlock = some i ∨ (Value.slice C k cC).ownBlock = some i))
    (k9 : z.ownsRow (g + 1) 26 2 (.slice B' (k + 1) cB') (k + 1) (rowsV p R ++ [.int .i64 p, .slice As m cs])) (k10 : z.ownsRow (g + 1) 3 1 (.slice C' (k + 1) cC') (k + 1) (cntV R ++ [.int .i64 (m : Int)]))
    (b1 : ∀ q, (Value.slice B' (k + 1) cB').ownBlock = some q → (Value.slice B k cB).ownBlock = some q ∨ W.heap.size ≤ q) (b2 : ∀ q, (Value.slice C' (k + 1) cC').ownBlock = some q → (Value.slice C k cC).ownBlock = some q ∨ W.heap.size ≤ q)
    (b3 : ∀ q, (Value.slice B' (k + 1) cB').ownBlock = some q → (Value.slice C' (k + 1) cC').ownBlock ≠ some q) :
    ScrInv w g p (k + 1) (.slice B' (k + 1) cB') (.slice C' (k + 1) cC') (.slice Ah m ch) z := by
  obtain ⟨F', hF'⟩ : ∃ F' : Nat → Prop, ∀ i, F' i ↔ (F i ∨ (Value.slice B' (k + 1) cB').ownBlock = some i ∨ (Value.slice C' (k + 1) cC').ownBlock = some i) := ⟨_, fun _ => Iff.rfl⟩
  have hm : ∀ i, i < W.heap.size → F' i → F i := fun i hi e => by
    rcases (hF' i).1 e with e | e | e
    · exact e
    · rcases b1 i e with e | e
      · exact h15 i e
      · omega
    · rcases b2 i e with e | e
      · exact h16 i e
      · omega
  have hS : ∀ i, ((Value.slice B k cB).ownBlock = some i ∨ (Value.slice C k cC).ownBlock = some i) → F' i := fun i e => (hF' i).2 (.inl (by
    rcases e with e | e
    · exact h15 i e
    · exact h16 i e))
  have hng : ¬ ((Value.slice B k cB).ownBlock = some g ∨ (Value.slice C k cC).ownBlock = some g) := fun e => by
    rcases e with e | e
    · have := h9.lt g e; omega
    · have := h10.lt g e; omega
  refine ⟨L, As, Ah, cs, ch, m, B', C', cB', cC', R ++ [(As, m, cs)], F', h1, h2, hB.blk h3 hng, rfl, (h5.more hm).gb hB hS, (h6.more hm).gb hB hS, rfl, rfl, by rw [rowsV_snoc]; exact k9, by rw [cntV_snoc]; exact k10, by simp [h11], fun r hr => ?_, (hF' g).2 (.inl h13), fun i hi => ?_, fun q e => (hF' q).2 (.inr (.inl e)), fun q e => (hF' q).2 (.inr (.inr e)), b3, ?_⟩
  · rcases List.mem_append.1 hr with hr | hr
    · obtain ⟨Lr, k1, k2, k3⟩ := h12 r hr
      exact ⟨Lr, k1, k2, (k3.more hm).gb hB hS⟩
    · rw [List.mem_singleton.1 hr]
      exact ⟨L, h1, h2, (h5.more hm).gb hB hS⟩
  · rcases (hF' i).1 hi with e | e | e
    · exact ⟨(h14 i e).1, Nat.lt_of_lt_of_le (h14 i e).2 hB.size⟩
    · have := k9.lt i e; omega
    · have := k10.lt i e; omega
  · refine hB.to_ext h18 fun i e => ?_
    rcases e with e | e
    · have := h9.lt i e; omega
    · have := h10.lt i e; omega
end Go.Proofs.Ytemnhnhpaaoccaa
