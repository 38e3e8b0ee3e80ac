/- More words and small lemmas. -/
import Derived.Test.YtlfccmipfijjbaaBase
namespace Go.Proofs.Ytlfccmipfijjbaa
open Go.RowKit
theorem rd_mark (w : World) (cs : List Value) (e : TypeId) (fz : Nat × Nat) : Rd (w.alloc (.cells cs.toArray e fz)) (some ⟨w.heap.size, 0, none⟩) cs := by
  intro _
  refine ⟨w.heap.size, 0, rfl, fun j u hu => ?_⟩
  have h : (w.alloc (.cells cs.toArray e fz)).heap[w.heap.size]? = some (.cells cs.toArray e fz) := heap_alloc_new w _
  unfold World.cell?
  simp only [Nat.zero_add]
  rw [h]
  simpa using hu
theorem rd_mark2 (w : World) (o : Obj) (cs : List Value) (e : TypeId) (fz : Nat × Nat) : Rd ((w.alloc o).alloc (.cells cs.toArray e fz)) (some ⟨w.heap.size + 1, 0, none⟩) cs := by
  have := rd_mark (w.alloc o) cs e fz
  rwa [World.size_alloc] at this
/-- an answer; nothing that was there has turned -/
def RetE (v : Value) (w : World) (e : Ending) (w' : World) : Prop := e = .returned v ∧ Ext w w'
theorem toE_eq {P : Program} {f : FuncId} {args : Array Value} {w : World} {v : Value} (h : Calls P f args w fun e w' => e = .returned v ∧ w = w') : Calls P f args w (RetE v w) :=
  h.mono fun _ _ ⟨he, hw⟩ => ⟨he, hw ▸ Ext.refl w⟩
theorem toE_q {P : Program} {f : FuncId} {args : Array Value} {w : World} {v : Value} (h : Calls P f args w fun e w' => e = .returned v ∧ ∃ q, w' = w.drewN q) : Calls P f args w (RetE v w) :=
  h.mono fun _ _ ⟨he, q, hw⟩ => ⟨he, hw ▸ (Ext.refl w).drewN q⟩
end Go.Proofs.Ytlfccmipfijjbaa
