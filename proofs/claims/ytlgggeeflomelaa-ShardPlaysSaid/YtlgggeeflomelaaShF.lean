/- shard: Calls' Step. -/
import Derived.Test.YtlgggeeflomelaaShE
namespace Go.Proofs.Ytlgggeeflomelaa
open Go.RowKit

/-- what a step leaves -/
def StepS (w : World) (C F : Nat → Prop) (gx gb N : Nat) (s : SSt) (v : Value) (e : Ending) (w' : World) : Prop :=
  ∃ L' C' F', L'.length ≤ N ∧ e = .returned v ∧ ShAt w' C' F' gx gb L' s ∧ GB w w' C ∧ (∀ i, C' i → C i ∨ w.heap.size ≤ i) ∧ (∀ i, F i → F' i) ∧ ∀ i, F' i → F i ∨ w.heap.size ≤ i
/-- the same, with two rows that are its own -/
def StepM (w : World) (C F : Nat → Prop) (gx gb N k : Nat) (s : SSt) (w' : World) : Prop :=
  ∃ L' C' F', L'.length ≤ N ∧ ShAt w' C' F' gx gb L' s ∧ GB w w' C ∧ (∀ i, C' i → C i ∨ w.heap.size ≤ i) ∧ (∀ i, F i → F' i) ∧ (∀ i, F' i → F i ∨ w.heap.size ≤ i) ∧ ∀ i, F' i → ¬ (w.heap.size ≤ i ∧ i < w.heap.size + k)
theorem StepM.set {w wd w' : World} {C F : Nat → Prop} {gx gb N k : Nat} {s : SSt} (h : StepM w C F gx gb N k s wd) (g : GB wd w' (fun i => w.heap.size ≤ i ∧ i < w.heap.size + k)) : StepM w C F gx gb N k s w' := by
  obtain ⟨L', C', F', h1, h2, h3, h4, h5, h6, h7⟩ := h
  exact ⟨L', C', F', h1, h2.gb g h7, h3.trans g (fun i e => .inr e.1), h4, h5, h6, h7⟩
theorem StepM.done {w w' : World} {C F : Nat → Prop} {gx gb N k : Nat} {s : SSt} (h : StepM w C F gx gb N k s w') (r : Value) : StepS w C F gx gb N s r (.returned r) w' := by
  obtain ⟨L', C', F', h1, h2, h3, h4, h5, h6, h7⟩ := h
  exact ⟨L', C', F', h1, rfl, h2, h3, h4, h5, h6⟩
theorem sstep_fin {w W w3 w4 w6 : World} {C F C' F' : Nat → Prop} {gx gb who N k : Nat} {L' : List AccE} {s1 : SSt} {cl : SCall} {v : Value} (xW : Ext w W) (hW : W.heap.size = w.heap.size + k) (hw : who < 64) (hlt : ∀ i, F i → i < w.heap.size)
    (hl : L'.length ≤ N) (h1 : ShAt w3 C' F' gx gb L' s1) (h2 : PendS w3 C' F' gx who v cl) (h3 : GB W w3 C) (h4 : ∀ i, C' i → C i ∨ W.heap.size ≤ i) (h5 : ∀ i, F i → F' i) (h6 : ∀ i, F' i → F i ∨ W.heap.size ≤ i)
    (g4 : GB w3 w4 (fun i => w.heap.size ≤ i ∧ i < w.heap.size + k)) (g6 : GB (w4.setCell ⟨gx, 1 + who, none⟩ v) w6 (fun i => w.heap.size ≤ i ∧ i < w.heap.size + k)) :
    StepM w C F gx gb N k (s1.put who cl) w6 := by
  have hs3 := h3.size
  have n0 : ∀ i, F' i → ¬ (w.heap.size ≤ i ∧ i < w.heap.size + k) := fun i hi e => (h6 i hi).elim (fun h => by have := hlt _ h; omega) (fun h => by omega)
  have hlt1 := h1.lt
  have h1' := h1.gb g4 n0
  have h2' := h2.gb (C' := C') (F' := F') g4 (fun i hi => .inr (.inl fun e => n0 i e hi)) (fun _ _ e => .inl e) (fun _ e => e) hlt1
  obtain ⟨f', -, -, -, -, hput⟩ := h1'.pend hw
  obtain ⟨C9, F9, q1, q2, q3, q4, q5⟩ := hput v cl h2'
  have hs4 := g4.size
  have n9 : ∀ i, F9 i → ¬ (w.heap.size ≤ i ∧ i < w.heap.size + k) := fun i hi e => (q5 i hi).elim (fun h => n0 i h e) (fun h => by omega)
  refine ⟨L', C9, F9, hl, q1.gb g6 n9, ?_, fun i hi => ?_, fun i hi => q4 i (h5 i hi), fun i hi => ?_, n9⟩
  · have e1 : GB w w4 C := (GB.back xW h3).trans g4 (fun i e => .inr e.1)
    have e2 := e1.trans q2 (fun i hi => (h4 i hi).imp id (fun h => by omega))
    exact e2.trans g6 (fun i e => .inr e.1)
  · rcases q3 i hi with h | h
    · exact (h4 i h).imp id (fun h => by omega)
    · exact .inr (by omega)
  · rcases q5 i hi with h | h
    · exact (h6 i h).imp id (fun h => by omega)
    · exact .inr (by omega)
theorem pendS_func {w : World} {C F : Nat → Prop} {gx who : Nat} {v : Value} {s : SCall} (h : PendS w C F gx who v s) : v = .nilFunc ∨ ∃ f c, v = .func (.func f) #[] c := by
  cases s with
  | idle => exact .inl h
  | begun op key val => obtain ⟨p0, p1, h1, _⟩ := h; exact .inr ⟨_, _, h1⟩
  | swap op key val ver m n => obtain ⟨p0, p1, p2, p3, p4, A, c, ks, h1, _⟩ := h; exact .inr ⟨_, _, h1⟩
theorem pendS_idle {w : World} {C F : Nat → Prop} {gx who : Nat} {v : Value} {s : SCall} (h : PendS w C F gx who v s) (hs : s = .idle) : v = .nilFunc := by
  subst hs
  exact h
theorem pendS_func2 {w : World} {C F : Nat → Prop} {gx who : Nat} {v : Value} {s : SCall} (h : PendS w C F gx who v s) (hs : s ≠ .idle) : ∃ f c, v = .func (.func f) #[] c := by
  cases s with
  | idle => exact absurd rfl hs
  | begun op key val => obtain ⟨p0, p1, h1, _⟩ := h; exact ⟨_, _, h1⟩
  | swap op key val ver m n => obtain ⟨p0, p1, p2, p3, p4, A, c, ks, h1, _⟩ := h; exact ⟨_, _, h1⟩
theorem set3_gb (w : World) (g : Nat) (a b c : Value) {S : Nat → Prop} (hg : S g) : GB w (((w.setCell ⟨g, 0, none⟩ a).setCell ⟨g, 1, none⟩ b).setCell ⟨g, 2, none⟩ c) S := (((GB.refl w S).set g 0 a (.inl hg)).set g 1 b (.inl hg)).set g 2 c (.inl hg)
/-- the call of the pending function, the stores -/
def SMid (w : World) (C F : Nat → Prop) (gx gb N : Nat) (s : SSt) (done : Bool) (er nu : Int) (wd : World) : Prop :=
  StepM w C F gx gb N 2 s wd ∧ wd.heap[w.heap.size + 1]? = some (.cells #[.bool done, .int .i64 er, .int .i64 nu] 74 (0, 0)) ∧ wd.heap[w.heap.size]? = some (.cells #[.bool false, .int .i64 0, .int .i64 0] 74 (0, 0))
theorem smid_a {w W w3 : World} {C F C' F' : Nat → Prop} {gx gb who N : Nat} {L' : List AccE} {s1 : SSt} {cl : SCall} {v : Value} {done : Bool} {er nu : Int} {x y z : Value} (xW : Ext w W) (hW : W.heap.size = w.heap.size + 2) (hw : who < 64) (hlt : ∀ i, F i → i < w.heap.size) (hg : gx < w.heap.size)
    (hl : L'.length ≤ N) (h1 : ShAt w3 C' F' gx gb L' s1) (h2 : PendS w3 C' F' gx who v cl) (h3 : GB W w3 C) (h4 : ∀ i, C' i → C i ∨ W.heap.size ≤ i) (h5 : ∀ i, F i → F' i) (h6 : ∀ i, F' i → F i ∨ W.heap.size ≤ i)
    (k1 : w3.heap[w.heap.size + 1]? = some (.cells #[x, y, z] 74 (0, 0))) (k0 : w3.heap[w.heap.size]? = some (.cells #[.bool false, .int .i64 0, .int .i64 0] 74 (0, 0))) :
    SMid w C F gx gb N (s1.put who cl) done er nu ((((w3.setCell ⟨gx, 1 + who, none⟩ v).setCell ⟨w.heap.size + 1, 0, none⟩ (.bool done)).setCell ⟨w.heap.size + 1, 1, none⟩ (.int .i64 er)).setCell ⟨w.heap.size + 1, 2, none⟩ (.int .i64 nu)) := by
  refine ⟨sstep_fin xW hW hw hlt hl h1 h2 h3 h4 h5 h6 (GB.refl w3 _) (set3_gb _ _ _ _ _ ⟨by omega, by omega⟩), row3 (blk_grown k1 (grown_set w3 gx _ v) (by omega)) _ _ _, ?_⟩
  exact blk_grown (blk_grown (blk_grown (blk_grown k0 (grown_set w3 gx _ v) (by omega)) (grown_set _ (w.heap.size + 1) 0 _) (by omega)) (grown_set _ (w.heap.size + 1) 1 _) (by omega)) (grown_set _ (w.heap.size + 1) 2 _) (by omega)
set_option maxHeartbeats 2000000 in
set_option maxRecDepth 100000 in
theorem scalls_run (w : World) (C F : Nat → Prop) (gx gb who N : Nat) (L : List AccE) (s s1 : SSt) (cl : SCall) (fn : FuncId) (caps : Array Value) (done : Bool) (er nu : Int) (h : ShAt w C F gx gb L s) (hw : who < 64)
    (hv : w.cell? ⟨gx, 1 + who, none⟩ = some (.func (.func fn) #[] caps))
    (hen : ∀ u : World, (callFunc fn caps).run Try.prog u = .ok (.enter fn caps) u)
    (CL : ∀ u, Ext w u → Calls Try.prog fn caps u (SClo u C F gx gb who N s1 cl done er nu)) :
    Calls Try.prog 67 #[.pointer (some ⟨gx, 1, none⟩), .int .i64 (who : Int)] w (StepS w C F gx gb N (s1.put who cl) (.agg #[.bool done, .int .i64 er, .int .i64 nu])) := by
  obtain ⟨W, hW⟩ : ∃ W, (w.alloc (.cells #[.bool false, .int .i64 0, .int .i64 0] 74)).alloc (.cells #[.bool false, .int .i64 0, .int .i64 0] 74) = W := ⟨_, rfl⟩
  have xW : Ext w W := by rw [← hW]; exact ((Ext.refl w).alloc _).alloc _
  have HSW := Lib.hid (show W.heap.size = w.heap.size + 2 by rw [← hW]; simp)
  have K0 := Lib.hid (show W.heap[w.heap.size]? = some (.cells #[.bool false, .int .i64 0, .int .i64 0] 74 (0, 0)) by rw [← hW]; exact blk_past (blk_new w _) _)
  have K1 := Lib.hid (show W.heap[w.heap.size + 1]? = some (.cells #[.bool false, .int .i64 0, .int .i64 0] 74 (0, 0)) by rw [← hW]; exact blk_newk _ _ (by simp))
  have dW : W.cell? ⟨gx, 1 + who, none⟩ = some (.func (.func fn) #[] caps) := ext_cell xW hv
  have HLT := Lib.hid h.lt; have hsub := Lib.hid h.sub
  have HCL := Lib.hid (CL W.drew (xW.trans (Ext.refl W).drew))
  have hgl : gx < w.heap.size := World.block_lt_of_cell? w _ hv
  have XW := Lib.hid xW
  have hwi : (who : Int) < 64 := by omega
  clear h CL hv
  have n0 : ¬ C w.heap.size := fun e => Nat.lt_irrefl _ (HLT.out _ (hsub.out _ e))
  have n1 : ¬ C (w.heap.size + 1) := fun e => by have := HLT.out _ (hsub.out _ e); omega
  by_cases hi : cl = .idle
  · have HI := Lib.hid hi
    clear hi
    go_enter Try.func67, Try.ntmps67
    go_upto_region 2 with fail
    (try rw [hW])
    clear hW
    go_cut [] (fun wd => SMid w C F gx gb N (s1.put who cl) done er nu wd)
    case first =>
      go_region_with ((with_reducible refine HCL.out.mono ?_); rintro e w3 ⟨v, C', F', L', hl, rfl, h1, h2, h3, h4, h5, h6⟩; obtain rfl : v = .nilFunc := pendS_idle h2 HI.out; have h3' := GB.back (Ext.refl W).drew h3; have k1 := h3'.blk K1.out n1; have k0 := h3'.blk K0.out n0; have c0 := blk_cell k1 0; have c1 := blk_cell k1 1; have c2 := blk_cell k1 2; have z0 := blk_frozen k1 0; have z1 := blk_frozen k1 1; have z2 := blk_frozen k1 2; obtain ⟨f', cg, zg, -, -, -⟩ := h1.pend hw; have M := Lib.hid (smid_a (done := done) (er := er) (nu := nu) XW.out HSW.out hw HLT.out hgl hl h1 h2 h3' h4 h5 h6 k1 k0); clear hl h1 h2 h3 h3' h4 h5 h6 k1 k0)
      all_goals
        go_wp2_with fail
        go_meet
        exact M.out
    case rest =>
      obtain ⟨hm, k1, k0⟩ := hcut
      have HM := Lib.hid hm
      have c0 := blk_cell k1 0; have c1 := blk_cell k1 1; have c2 := blk_cell k1 2
      have e0 := blk_cell k0 0; have e1 := blk_cell k0 1; have e2 := blk_cell k0 2
      have z0 := blk_frozen k0 0; have z1 := blk_frozen k0 1; have z2 := blk_frozen k0 2
      have K0' := Lib.hid k0
      clear k1 k0 dW hm
      go_wp2_with fail
      refine bodyPost_ret (results_cell_row (p := 4) rfl _ _ w.heap.size _ #[.bool done, .int .i64 er, .int .i64 nu] (0, 0) _ rfl (row3 K0'.out _ _ _) Try.underlying74 (by rfl) (by kernel_rfl)) rfl ?_
      exact (HM.out.set (set3_gb _ _ _ _ _ ⟨Nat.le_refl _, by omega⟩)).done _
  · have HI := Lib.hid hi
    clear hi
    go_enter Try.func67, Try.ntmps67
    go_upto_region 2 with fail
    (try rw [hW])
    clear hW
    go_cut [] (fun wd => SMid w C F gx gb N (s1.put who cl) done er nu wd)
    case first =>
      go_region_with ((with_reducible refine HCL.out.mono ?_); rintro e w3 ⟨v, C', F', L', hl, rfl, h1, h2, h3, h4, h5, h6⟩; obtain ⟨f9, c9, rfl⟩ := pendS_func2 h2 HI.out; have h3' := GB.back (Ext.refl W).drew h3; have k1 := h3'.blk K1.out n1; have k0 := h3'.blk K0.out n0; have c0 := blk_cell k1 0; have c1 := blk_cell k1 1; have c2 := blk_cell k1 2; have z0 := blk_frozen k1 0; have z1 := blk_frozen k1 1; have z2 := blk_frozen k1 2; obtain ⟨f', cg, zg, -, -, -⟩ := h1.pend hw; have M := Lib.hid (smid_a (done := done) (er := er) (nu := nu) XW.out HSW.out hw HLT.out hgl hl h1 h2 h3' h4 h5 h6 k1 k0); clear hl h1 h2 h3 h3' h4 h5 h6 k1 k0)
      all_goals
        go_wp2_with fail
        go_meet
        exact M.out
    case rest =>
      obtain ⟨hm, k1, k0⟩ := hcut
      have HM := Lib.hid hm
      have c0 := blk_cell k1 0; have c1 := blk_cell k1 1; have c2 := blk_cell k1 2
      have e0 := blk_cell k0 0; have e1 := blk_cell k0 1; have e2 := blk_cell k0 2
      have z0 := blk_frozen k0 0; have z1 := blk_frozen k0 1; have z2 := blk_frozen k0 2
      have K0' := Lib.hid k0
      clear k1 k0 dW hm
      go_wp2_with fail
      refine bodyPost_ret (results_cell_row (p := 4) rfl _ _ w.heap.size _ #[.bool done, .int .i64 er, .int .i64 nu] (0, 0) _ rfl (row3 K0'.out _ _ _) Try.underlying74 (by rfl) (by kernel_rfl)) rfl ?_
      exact (HM.out.set (set3_gb _ _ _ _ _ ⟨Nat.le_refl _, by omega⟩)).done _
end Go.Proofs.Ytlgggeeflomelaa
