/- Still more words and small lemmas. -/
import Derived.Test.YthkdjjfnmlemdaaBase2
namespace Go.Proofs.Ythkdjjfnmlemdaa
open Go.RowKit
theorem rd_newk (w : World) (cs : List Value) (e : TypeId) {k : Nat} (hk : w.heap.size = k) : Rd (w.alloc (.cells cs.toArray e)) (some ⟨k, 0, none⟩) cs := by
  subst hk
  exact rd_new w cs e
theorem own_madek (w : World) (cs : List Value) (e : TypeId) (size n : Nat) (hn : cs.length = n * size) (hm : n ≤ maxLen) {base k : Nat} (hk : w.heap.size = k) (hb : base ≤ k) :
    (w.alloc (.cells cs.toArray e)).ownsRow base e size (.slice (some ⟨k, 0, none⟩) n n) n cs := by
  subst hk
  exact own_made w cs e size n hn hm hb
theorem blk_newk (w : World) (o : Obj) {k : Nat} (hk : w.heap.size = k) : (w.alloc o).heap[k]? = some o := by
  subst hk
  exact heap_alloc_new w o
theorem slice_mid_any2 {P : Program} {t e : TypeId} (ht : P.underlying t = some (.slice e)) (hz : ∀ u : World, (sizeOf e).run P u = .ok 1 u) {A : Option Addr} {n c m d : Nat} (k h : Nat) {ki hi : Int} (hki : ki = (k : Int)) (hhi : hi = (h : Int)) (hhn : h ≤ n) (hnc : n ≤ c) (hm : h = m + k) (hd : c = d + k) :
    ∃ A' : Option Addr, (∀ u : World, (Instr.slice t (.slice A n c) (some (.int .i64 ki)) (some (.int .i64 hi)) none).run P u = .ok (.slice A' m d) u) ∧
      (∀ (w : World) (vs : List Value), vs.length = n → Rd w A vs → Rd w A' ((vs.drop k).take m)) := by
  subst hki hhi
  have he : P.elem t = e := by simp [Program.elem, ht]
  refine ⟨if c = k then A else A.map (·.add k), fun u => ?_, fun w vs hl hr hne => ?_⟩
  · rw [run_slice_lh (P := P) u t A n c (by rw [he]; exact ht) .i64 .i64 (k : Int) (h : Int) (by omega) (by omega) (by omega), he, hz]
    simp only [Result.andThen, sliced, Int.toNat_natCast, Nat.mul_one]
    congr 2 <;> omega
  · have hvn : vs ≠ [] := by rintro rfl; simp at hne
    obtain ⟨b, off, rfl, hc⟩ := hr hvn
    have hck : ¬ c = k := by
      intro h
      apply hne
      rw [List.drop_of_length_le (by omega)]
      simp
    rw [if_neg hck]
    refine ⟨b, off + k, by simp [Addr.add_lit], fun j u hu => ?_⟩
    rw [Nat.add_assoc]
    refine hc (k + j) u ?_
    rw [List.getElem?_take] at hu
    split at hu
    · rw [← hu, List.getElem?_drop]
    · cases hu
end Go.Proofs.Ythkdjjfnmlemdaa
