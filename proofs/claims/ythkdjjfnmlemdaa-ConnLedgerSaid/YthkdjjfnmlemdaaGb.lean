/- A word for 'nothing has turned but for these blocks'. No program in sight. -/
import Derived.Test.YthkdjjfnmlemdaaBlk
namespace Go.Proofs.Ythkdjjfnmlemdaa
open Go.RowKit

/-- nothing that was there has turned, but for the blocks of S -/
structure GB (w w' : World) (S : Nat → Prop) : Prop where
  os : w'.os = w.os
  tape : w'.tape = w.tape
  output : w'.output = w.output
  size : w.heap.size ≤ w'.heap.size
  block : ∀ i, i < w.heap.size → ¬ S i → w'.heap[i]? = w.heap[i]?
theorem GB.of_ext {w w' : World} (S : Nat → Prop) (h : Ext w w') : GB w w' S := ⟨h.os, h.tape, h.output, h.size, fun i hi _ => h.block i hi⟩
theorem GB.refl (w : World) (S : Nat → Prop) : GB w w S := GB.of_ext S (Ext.refl w)
theorem GB.grown {w a b : World} {S : Nat → Prop} {row : Option Nat} (h : GB w a S) (k : a.grownBy b row) (hr : ∀ q, row = some q → S q ∨ w.heap.size ≤ q) : GB w b S :=
  ⟨k.os.trans h.os, k.tape.trans h.tape, k.output.trans h.output, Nat.le_trans h.size k.size, fun i hi hs => (k.block i (Nat.lt_of_lt_of_le hi h.size) (fun e => by
    rcases hr i e.symm with h' | h'
    · exact hs h'
    · omega)).trans (h.block i hi hs)⟩
theorem GB.ext {w a b : World} {S : Nat → Prop} (h : GB w a S) (k : Ext a b) : GB w b S := h.grown (row := none) (grown_none k none) (fun q e => by cases e)
theorem GB.alloc {w a : World} {S : Nat → Prop} (h : GB w a S) (o : Obj) : GB w (a.alloc o) S := h.ext ((Ext.refl a).alloc o)
theorem GB.drew {w a : World} {S : Nat → Prop} (h : GB w a S) : GB w a.drew S := h.ext (Ext.refl a).drew
theorem GB.set {w a : World} {S : Nat → Prop} (h : GB w a S) (g i : Nat) (u : Value) (hg : S g ∨ w.heap.size ≤ g) : GB w (a.setCell ⟨g, i, none⟩ u) S := h.grown (grown_set a g i u) (fun q e => by injection e with e; subst e; exact hg)
theorem GB.trans {w a b : World} {S S' : Nat → Prop} (h : GB w a S) (k : GB a b S') (hs : ∀ i, S' i → S i ∨ w.heap.size ≤ i) : GB w b S :=
  ⟨k.os.trans h.os, k.tape.trans h.tape, k.output.trans h.output, Nat.le_trans h.size k.size, fun i hi hn => (k.block i (Nat.lt_of_lt_of_le hi h.size) (fun e => by
    rcases hs i e with h' | h'
    · exact hn h'
    · omega)).trans (h.block i hi hn)⟩
theorem GB.back {w a b : World} {S : Nat → Prop} (h : Ext w a) (k : GB a b S) : GB w b S := ⟨k.os.trans h.os, k.tape.trans h.tape, k.output.trans h.output, Nat.le_trans h.size k.size, fun i hi hn => (k.block i (Nat.lt_of_lt_of_le hi h.size) hn).trans (h.block i hi)⟩
theorem GB.more {w a : World} {S S' : Nat → Prop} (h : GB w a S) (hs : ∀ i, i < w.heap.size → S i → S' i) : GB w a S' := ⟨h.os, h.tape, h.output, h.size, fun i hi hn => h.block i hi (fun e => hn (hs i hi e))⟩
theorem GB.cell {w a : World} {S : Nat → Prop} (h : GB w a S) {p : Addr} {v : Value} (hc : w.cell? p = some v) (hp : ¬ S p.block) : a.cell? p = some v :=
  (World.cell?_of_block (h.block p.block (World.block_lt_of_cell? w p hc) hp)).trans hc
theorem GB.blk {w a : World} {S : Nat → Prop} (h : GB w a S) {g : Nat} {o : Obj} (hc : w.heap[g]? = some o) (hp : ¬ S g) : a.heap[g]? = some o := (h.block g (blk_lt hc) hp).trans hc
theorem GB.to_ext {w0 w a : World} {S : Nat → Prop} (h : GB w a S) (k : Ext w0 w) (hs : ∀ i, S i → w0.heap.size ≤ i) : Ext w0 a :=
  ⟨h.os.trans k.os, h.tape.trans k.tape, h.output.trans k.output, Nat.le_trans k.size h.size, fun i hi => (h.block i (Nat.lt_of_lt_of_le hi k.size) (fun e => by have := hs i e; omega)).trans (k.block i hi)⟩
theorem GB.rd {w a : World} {S : Nat → Prop} {A : Option Addr} {vs : List Value} (h : GB w a S) (hr : Rd w A vs) (hs : ∀ p, A = some p → ¬ S p.block) : Rd a A vs := fun hne => by
  obtain ⟨b, off, hA, hc⟩ := hr hne
  exact ⟨b, off, hA, fun j u hu => h.cell (hc j u hu) (show ¬ S b from hs _ hA)⟩
theorem GB.own {w a : World} {S : Nat → Prop} {base : Nat} {e : TypeId} {size : Nat} {v : Value} {n : Nat} {xs : List Value} (k : GB w a S) (h : w.ownsRow base e size v n xs) (hs : ∀ q, v.ownBlock = some q → ¬ S q) : a.ownsRow base e size v n xs := by
  refine ⟨h.1, ?_⟩
  rcases h.2 with hn | ⟨g, cap, cur, rfl, hbg, hgg, rest⟩
  · exact .inl hn
  · exact .inr ⟨g, cap, cur, rfl, hbg, by rw [k.block g (Array.getElem?_eq_some_iff.1 hgg).1 (hs g rfl)]; exact hgg, rest⟩
/-- a cut from k on, wherever it stands, of elements of so many cells -/
theorem slice_from_s {P : Program} {t e : TypeId} {s : Nat} (ht : P.underlying t = some (.slice e)) (hz : ∀ u : World, (sizeOf e).run P u = .ok s u) {A : Option Addr} {n c m d : Nat} (k : Nat) {ki : Int} (hki : ki = (k : Int)) (hnc : n ≤ c) (hm : n = m + k) (hd : c = d + k) :
    ∃ A' : Option Addr, (∀ u : World, (Instr.slice t (.slice A n c) (some (.int .i64 ki)) none none).run P u = .ok (.slice A' m d) u) ∧
      (∀ (w : World) (vs : List Value), vs.length = n * s → Rd w A vs → Rd w A' (vs.drop (k * s))) ∧ (∀ a, A' = some a → ∃ a', A = some a' ∧ a'.block = a.block) ∧ (A = none → A' = none) := by
  subst hki
  have he : P.elem t = e := by simp [Program.elem, ht]
  refine ⟨if c = k then A else A.map (·.add (k * s)), fun u => ?_, fun w vs hl hr hne => ?_, fun a ha => ?_, fun ha => by subst ha; split <;> rfl⟩
  · rw [run_slice_l (P := P) u t A n c (by rw [he]; exact ht) .i64 (k : Int) (by omega) (by omega), he, hz]
    simp only [Result.andThen, sliced, Int.toNat_natCast]
    congr 2 <;> omega
  · have hvn : vs ≠ [] := by rintro rfl; simp at hne
    obtain ⟨b, off, rfl, hc⟩ := hr hvn
    have hck : ¬ c = k := by
      intro h
      apply hne
      have : m = 0 := by omega
      rw [List.drop_of_length_le (by rw [hl, hm, this, Nat.zero_add]; exact Nat.le_refl _)]
    rw [if_neg hck]
    exact ⟨b, off + k * s, by simp [Addr.add_lit], fun j u hu => by rw [Nat.add_assoc]; exact hc (k * s + j) u (by rw [← hu, List.getElem?_drop])⟩
  · split at ha
    · exact ⟨a, ha, rfl⟩
    · cases hA : A with
      | none => rw [hA] at ha; cases ha
      | some q =>
        rw [hA] at ha
        injection ha with ha
        refine ⟨q, rfl, ?_⟩
        rw [← ha]
        unfold Addr.add
        split <;> rfl
end Go.Proofs.Ythkdjjfnmlemdaa
