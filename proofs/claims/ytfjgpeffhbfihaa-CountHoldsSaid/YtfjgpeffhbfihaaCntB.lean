/- count: a counter in memory; New. -/
import Derived.Test.YtfjgpeffhbfihaaCntA
namespace Go.Proofs.Ytfjgpeffhbfihaa
open Go.RowKit

/-- where a worker's call stands: none; a Read; ahead of its Load; behind it -/
inductive CallS where
  | idle
  | read
  | load (stop : Nat) (e : Int) (by_ : Nat)
  | swap (n stop : Nat) (e : Int) (by_ : Nat)
/-- what was captured: a block that nobody writes -/
def CapAt (w : World) (F : Nat → Prop) (p v : Value) : Prop := ∃ b t, p = .pointer (some ⟨b, 0, none⟩) ∧ w.heap[b]? = some (.cells #[v] t (0, 0)) ∧ ¬ F b
theorem CapAt.cell {w : World} {F : Nat → Prop} {p v : Value} (h : CapAt w F p v) : ∃ b, p = .pointer (some ⟨b, 0, none⟩) ∧ w.cell? ⟨b, 0, none⟩ = some v ∧ ¬ F b := by
  obtain ⟨b, t, h1, h2, h3⟩ := h
  exact ⟨b, h1, blk_cell h2 0, h3⟩
/-- a store into a block that is no captured one -/
theorem CapAt.far {w w' : World} {F : Nat → Prop} {p v : Value} {g : Nat} {o : Obj} (h : CapAt w F p v) (k : GB w w' (· = g)) (hg : w.heap[g]? = some o) (ho : ∀ u t, o ≠ .cells #[u] t (0, 0)) : CapAt w' F p v := by
  obtain ⟨b, t, h1, h2, h3⟩ := h
  refine ⟨b, t, h1, k.blk h2 (fun e => ?_), h3⟩
  have e : b = g := e
  subst e
  rw [h2] at hg
  injection hg with hg
  exact ho v t hg.symm
/-- a pending call's function -/
def PendAt (w : World) (F : Nat → Prop) (gc : Nat) (who : Nat) (v : Value) : CallS → Prop
  | .idle => v = .nilFunc
  | .read => ∃ p0 p1, v = .func (.func 57) #[] #[p0, p1] ∧ CapAt w F p0 (.pointer (some ⟨gc, 0, none⟩)) ∧ CapAt w F p1 (.int .i64 (who : Int))
  | .load stop e by_ => ∃ p0 p1 p2 p3 p4, v = .func (.func 74) #[] #[p0, p1, p2, p3, p4] ∧ CapAt w F p0 (.pointer (some ⟨gc, 0, none⟩)) ∧ CapAt w F p1 (.int .i64 (who : Int)) ∧ CapAt w F p2 (.int .u64 (stop : Int)) ∧ CapAt w F p3 (.int .i64 e) ∧ CapAt w F p4 (.int .u64 (by_ : Int))
  | .swap n stop e by_ => ∃ p0 p1 p2 p3 p4 p5, v = .func (.func 75) #[] #[p0, p1, p2, p3, p4, p5] ∧ CapAt w F p0 (.pointer (some ⟨gc, 0, none⟩)) ∧ CapAt w F p1 (.int .i64 (who : Int)) ∧ CapAt w F p2 (.int .u64 (n : Int)) ∧ CapAt w F p3 (.int .u64 (by_ : Int)) ∧ CapAt w F p4 (.int .u64 (stop : Int)) ∧ CapAt w F p5 (.int .i64 e)
theorem CapAt.gb {w w' : World} {F F' S : Nat → Prop} {p v : Value} (h : CapAt w F p v) (k : GB w w' S) (hs : ∀ i, S i → F i) (hf : ∀ i, i < w.heap.size → F' i → F i) : CapAt w' F' p v := by
  obtain ⟨b, t, h1, h2, h3⟩ := h
  exact ⟨b, t, h1, k.blk h2 (fun e => h3 (hs _ e)), fun e => h3 (hf b (blk_lt h2) e)⟩
theorem PendAt.gb {w w' : World} {F F' S : Nat → Prop} {gc who : Nat} {v : Value} {s : CallS} (h : PendAt w F gc who v s) (k : GB w w' S) (hs : ∀ i, S i → F i) (hf : ∀ i, i < w.heap.size → F' i → F i) : PendAt w' F' gc who v s := by
  cases s with
  | idle => exact h
  | read =>
    obtain ⟨p0, p1, h1, c0, c1⟩ := h
    exact ⟨p0, p1, h1, c0.gb k hs hf, c1.gb k hs hf⟩
  | load stop e by_ =>
    obtain ⟨p0, p1, p2, p3, p4, h1, c0, c1, c2, c3, c4⟩ := h
    exact ⟨p0, p1, p2, p3, p4, h1, c0.gb k hs hf, c1.gb k hs hf, c2.gb k hs hf, c3.gb k hs hf, c4.gb k hs hf⟩
  | swap n stop e by_ =>
    obtain ⟨p0, p1, p2, p3, p4, p5, h1, c0, c1, c2, c3, c4, c5⟩ := h
    exact ⟨p0, p1, p2, p3, p4, p5, h1, c0.gb k hs hf, c1.gb k hs hf, c2.gb k hs hf, c3.gb k hs hf, c4.gb k hs hf, c5.gb k hs hf⟩
theorem PendAt.far {w w' : World} {F : Nat → Prop} {gc who g : Nat} {v : Value} {s : CallS} {o : Obj} (h : PendAt w F gc who v s) (k : GB w w' (· = g)) (hg : w.heap[g]? = some o) (ho : ∀ u t, o ≠ .cells #[u] t (0, 0)) : PendAt w' F gc who v s := by
  cases s with
  | idle => exact h
  | read =>
    obtain ⟨p0, p1, h1, c0, c1⟩ := h
    exact ⟨p0, p1, h1, c0.far k hg ho, c1.far k hg ho⟩
  | load stop e by_ =>
    obtain ⟨p0, p1, p2, p3, p4, h1, c0, c1, c2, c3, c4⟩ := h
    exact ⟨p0, p1, p2, p3, p4, h1, c0.far k hg ho, c1.far k hg ho, c2.far k hg ho, c3.far k hg ho, c4.far k hg ho⟩
  | swap n stop e by_ =>
    obtain ⟨p0, p1, p2, p3, p4, p5, h1, c0, c1, c2, c3, c4, c5⟩ := h
    exact ⟨p0, p1, p2, p3, p4, p5, h1, c0.far k hg ho, c1.far k hg ho, c2.far k hg ho, c3.far k hg ho, c4.far k hg ho, c5.far k hg ho⟩
/-- the counter's cells -/
def cntCells (gm : Nat) (lim : Nat) (ps : List Value) : Array Value := (Value.pointer (some ⟨gm, 0, none⟩) :: Value.int .u64 (lim : Int) :: ps).toArray
/-- a counter in memory; F: its blocks, and others in which nothing of it lies -/
def CntAt (w : World) (F : Nat → Prop) (gc gm lim val : Nat) (L : List AccE) (S : Nat → CallS) : Prop :=
  ∃ (Fm : Nat → Prop) (ps : List Value), MachAt w Fm gm [val] 0 L ∧ w.heap[gc]? = some (.cells (cntCells gm lim ps) 129 (0, 0)) ∧ ps.length = 64 ∧ ¬ Fm gc ∧
    (∀ i v, ps[i]? = some v → PendAt w F gc i v (S i)) ∧ F gc ∧ (∀ i, Fm i → F i) ∧ ∀ i, F i → i < w.heap.size
theorem CntAt.lt {w : World} {F : Nat → Prop} {gc gm lim val : Nat} {L : List AccE} {S : Nat → CallS} (h : CntAt w F gc gm lim val L S) : ∀ i, F i → i < w.heap.size := by
  obtain ⟨Fm, ps, _, _, _, _, _, _, _, h8⟩ := h
  exact h8
theorem CntAt.ext {w w' : World} {F : Nat → Prop} {gc gm lim val : Nat} {L : List AccE} {S : Nat → CallS} (h : CntAt w F gc gm lim val L S) (x : Ext w w') : CntAt w' F gc gm lim val L S := by
  obtain ⟨Fm, ps, h1, h2, h3, h4, h5, h6, h7, h8⟩ := h
  exact ⟨Fm, ps, h1.ext x, blk_ext h2 x, h3, h4, fun i v hv => (h5 i v hv).gb (GB.of_ext (fun _ => False) x) (fun _ e => e.elim) (fun _ _ e => e), h6, h7, fun i hi => Nat.lt_of_lt_of_le (h8 i hi) x.size⟩
theorem CntAt.far {w w' : World} {F : Nat → Prop} {gc gm lim val g : Nat} {L : List AccE} {S : Nat → CallS} {o : Obj} (h : CntAt w F gc gm lim val L S) (k : GB w w' (· = g)) (hF : ¬ F g) (hg : w.heap[g]? = some o) (ho : ∀ u t, o ≠ .cells #[u] t (0, 0)) : CntAt w' F gc gm lim val L S := by
  obtain ⟨Fm, ps, h1, h2, h3, h4, h5, h6, h7, h8⟩ := h
  exact ⟨Fm, ps, h1.gb k (fun i hi e => hF (e ▸ h7 i hi)), k.blk h2 (fun e => hF (e ▸ h6)), h3, h4, fun i v hv => (h5 i v hv).far k hg ho, h6, h7, fun i hi => Nat.lt_of_lt_of_le (h8 i hi) k.size⟩
theorem cnt_cell2 {gm lim : Nat} {ps : List Value} {i : Nat} {v : Value} (h : ps[i]? = some v) : (cntCells gm lim ps)[2 + i]? = some v := by
  unfold cntCells
  rw [List.getElem?_toArray, show 2 + i = i + 1 + 1 by omega]
  simpa using h
theorem cnt_set2 {gm lim : Nat} {ps : List Value} {i : Nat} {v : Value} : (cntCells gm lim ps).setIfInBounds (2 + i) v = cntCells gm lim (ps.set i v) := by
  unfold cntCells
  rw [show 2 + i = i + 1 + 1 by omega]
  simp
/-- a new counter -/
def CntNew (lim : Nat) (w : World) (e : Ending) (w' : World) : Prop :=
  ∃ gc gm F, e = .returned (.tuple #[.pointer (some ⟨gc, 0, none⟩), .int .i64 0]) ∧ CntAt w' F gc gm lim 0 [] (fun _ => .idle) ∧ Ext w w' ∧ (∀ i, F i → w.heap.size ≤ i) ∧ w.heap.size ≤ gc
set_option maxHeartbeats 1000000 in
set_option maxRecDepth 100000 in
theorem cnew_ok (lim : Nat) (w : World) (h : (lim : Int) ≤ 4611686018427387903) : Calls Try.prog 25 #[.int .i64 (lim : Int)] w (CntNew lim w) := by
  have hcw : IntKind.u64.wrap (lim : Int) = (lim : Int) := by rw [IntKind.wrap_u64]; omega
  go_enter Try.func25, Try.ntmps25
  go_wp2_with fail
  refine (tform_ok lim w (by omega) h).mono ?_
  rintro e w1 ⟨rfl, rfl⟩
  go_wp2_with fail
  refine (mnew_ok 1 w (by omega) (by omega)).mono ?_
  rintro e w1 ⟨gm, Fm, rfl, m1, x1, f1, hg⟩
  have M1 := Lib.hid m1
  clear m1
  go_wp2_with fail
  go_ret2
  refine ⟨w1.heap.size, gm, fun i => Fm i ∨ i = w1.heap.size, rfl, ⟨Fm, List.replicate 64 .nilFunc, M1.out.ext ((Ext.refl w1).alloc _), ?_, by simp, fun e => ?_, fun i v hv => ?_, .inr rfl, fun i hi => .inl hi, fun i hi => ?_⟩, x1.alloc _, fun i hi => ?_, x1.size⟩
  · exact blk_new w1 _
  · obtain ⟨_, _, _, _, _, _, _, _, _, _, _, _, _, _, _, hlt⟩ := M1.out
    exact Nat.lt_irrefl _ (hlt _ e)
  · rw [List.getElem?_replicate] at hv
    split at hv
    · injection hv with hv
      exact hv.symm
    · cases hv
  · obtain ⟨_, _, _, _, _, _, _, _, _, _, _, _, _, _, _, hlt⟩ := M1.out
    rw [World.size_alloc]
    rcases hi with hi | rfl
    · exact Nat.lt_succ_of_lt (hlt i hi)
    · exact Nat.lt_succ_self _
  · rcases hi with hi | rfl
    · exact f1 i hi
    · exact x1.size
theorem cnew_bad (lim : Int) (w : World) (h : lim < 0 ∨ 4611686018427387903 < lim) : Calls Try.prog 25 #[.int .i64 lim] w fun e w' => e = .returned (.tuple #[.pointer none, .int .i64 1]) ∧ w = w' := by
  have Hb := Lib.hid h
  clear h
  go_enter Try.func25, Try.ntmps25
  go_wp2_with fail
  refine (tform_bad lim w Hb.out).mono ?_
  rintro e w1 ⟨rfl, rfl⟩
  go_wp2_with fail
  go_ret2
  exact ⟨rfl, rfl⟩
end Go.Proofs.Ytfjgpeffhbfihaa
