/- More words and small lemmas. -/
import Derived.Test.YthkdjjfnmlemdaaBase
namespace Go.Proofs.Ythkdjjfnmlemdaa
open Go.RowKit
theorem rd_mark (w : World) (cs : List Value) (e : TypeId) (fz : Nat × Nat) : Rd (w.alloc (.cells cs.toArray e fz)) (some ⟨w.heap.size, 0, none⟩) cs := by
  intro _
  refine ⟨w.heap.size, 0, rfl, fun j u hu => ?_⟩
  have h : (w.alloc (.cells cs.toArray e fz)).heap[w.heap.size]? = some (.cells cs.toArray e fz) := heap_alloc_new w _
  unfold World.cell?
  simp only [Nat.zero_add]
  rw [h]
  simpa using hu
theorem rd_mark2 (w : World) (o : Obj) (cs : List Value) (e : TypeId) (fz : Nat × Nat) : Rd ((w.alloc o).alloc (.cells cs.toArray e fz)) (some ⟨w.heap.size + 1, 0, none⟩) cs := by
  have := rd_mark (w.alloc o) cs e fz
  rwa [World.size_alloc] at this
/-- an answer; nothing that was there has turned -/
def RetE (v : Value) (w : World) (e : Ending) (w' : World) : Prop := e = .returned v ∧ Ext w w'
theorem toE_eq {P : Program} {f : FuncId} {args : Array Value} {w : World} {v : Value} (h : Calls P f args w fun e w' => e = .returned v ∧ w = w') : Calls P f args w (RetE v w) :=
  h.mono fun _ _ ⟨he, hw⟩ => ⟨he, hw ▸ Ext.refl w⟩
theorem toE_q {P : Program} {f : FuncId} {args : Array Value} {w : World} {v : Value} (h : Calls P f args w fun e w' => e = .returned v ∧ ∃ q, w' = w.drewN q) : Calls P f args w (RetE v w) :=
  h.mono fun _ _ ⟨he, q, hw⟩ => ⟨he, hw ▸ (Ext.refl w).drewN q⟩

theorem World.grown_trans {a b c : World} {row : Option Nat} (h : a.grownBy b row) (k : b.grownBy c row) : a.grownBy c row :=
  ⟨k.os.trans h.os, k.tape.trans h.tape, k.output.trans h.output, Nat.le_trans h.size k.size, fun i hi hne => (k.block i (Nat.lt_of_lt_of_le hi h.size) hne).trans (h.block i hi hne)⟩
theorem own_lt {w : World} {base : Nat} {e : TypeId} {size : Nat} {A : Option Addr} {n c : Nat} {xs : List Value} (h : w.ownsRow base e size (.slice A n c) n xs) : ∀ a, A = some a → a.block < w.heap.size := by
  intro a ha
  subst ha
  exact (h.lt a.block rfl).2
theorem mem_set {xs : List Nat} {i y : Nat} {P : Nat → Prop} (h : ∀ x ∈ xs, P x) (hy : P y) : ∀ x ∈ xs.set i y, P x := by
  intro x hx
  rcases List.mem_or_eq_of_mem_set hx with hx | rfl
  · exact h x hx
  · exact hy
theorem vals_set (k : IntKind) (xs : List Nat) (i x : Nat) : vals k (xs.set i x) = (vals k xs).set i (.int k (x : Int)) := by simp [vals, List.map_set]
theorem vals_drop (k : IntKind) (xs : List Nat) (i : Nat) : vals k (xs.drop i) = (vals k xs).drop i := by simp [vals, List.map_drop]
theorem vals_take (k : IntKind) (xs : List Nat) (i : Nat) : vals k (xs.take i) = (vals k xs).take i := by simp [vals, List.map_take]

/-- a cut from k on, wherever it stands -/
theorem slice_from_any {P : Program} {t e : TypeId} (ht : P.underlying t = some (.slice e)) (hz : ∀ u : World, (sizeOf e).run P u = .ok 1 u) {A : Option Addr} {n c m d : Nat} (k : Nat) {ki : Int} (hki : ki = (k : Int)) (hnc : n ≤ c) (hm : n = m + k) (hd : c = d + k) :
    ∃ A' : Option Addr, (∀ u : World, (Instr.slice t (.slice A n c) (some (.int .i64 ki)) none none).run P u = .ok (.slice A' m d) u) ∧
      (∀ (w : World) (vs : List Value), vs.length = n → Rd w A vs → Rd w A' (vs.drop k)) ∧ (∀ a, A = some a → ∃ a', A' = some a' ∧ a'.block = a.block) := by
  subst hki
  have he : P.elem t = e := by simp [Program.elem, ht]
  refine ⟨if c = k then A else A.map (·.add k), fun u => ?_, fun w vs hl hr hne => ?_, fun a ha => ?_⟩
  · rw [run_slice_l (P := P) u t A n c (by rw [he]; exact ht) .i64 (k : Int) (by omega) (by omega), he, hz]
    simp only [Result.andThen, sliced, Int.toNat_natCast, Nat.mul_one]
    congr 2 <;> omega
  · have hvn : vs ≠ [] := by rintro rfl; simp at hne
    obtain ⟨b, off, rfl, hc⟩ := hr hvn
    have hck : ¬ c = k := by
      intro h
      apply hne
      rw [List.drop_of_length_le (by omega)]
    rw [if_neg hck]
    exact ⟨b, off + k, by simp [Addr.add_lit], fun j u hu => by rw [Nat.add_assoc]; exact hc (k + j) u (by rw [← hu, List.getElem?_drop])⟩
  · subst ha
    split
    · exact ⟨a, rfl, rfl⟩
    · refine ⟨a.add k, rfl, ?_⟩
      unfold Addr.add
      split <;> rfl
end Go.Proofs.Ythkdjjfnmlemdaa
