/- count: Start. -/
import Derived.Test.YtfjgpeffhbfihaaCntE
import Derived.Deep.QuietTactic
import Derived.BigRegion
namespace Go.Proofs.Ytfjgpeffhbfihaa
open Go.RowKit

/-- a counter that went on -/
def CntGo (w : World) (F : Nat → Prop) (gc gm lim val : Nat) (L : List AccE) (S : Nat → CallS) (w' : World) : Prop :=
  ∃ F', CntAt w' F' gc gm lim val L S ∧ GB w w' F ∧ ∀ i, F' i → F i ∨ w.heap.size ≤ i
def updS (S : Nat → CallS) (who : Nat) (s : CallS) : Nat → CallS := fun i => if i = who then s else S i
theorem cell_off {w : World} {g i j : Nat} {v u : Value} (h : w.cell? ⟨g, i, none⟩ = some v) (hne : i ≠ j) : (w.setCell ⟨g, j, none⟩ u).cell? ⟨g, i, none⟩ = some v := (World.cell?_setCell_other _ _ _ _ (by intro e; apply hne; have h := congrArg Addr.off e; simp at h; omega)).trans h
theorem CntAt.put {w w3 : World} {F : Nat → Prop} {gc gm lim val who : Nat} {L : List AccE} {S : Nat → CallS} {v : Value} {s : CallS} (h : CntAt w F gc gm lim val L S) (x : Ext w w3) (p : PendAt w3 F gc who v s) :
    CntGo w F gc gm lim val L (updS S who s) (w3.setCell ⟨gc, 2 + who, none⟩ v) := by
  have h' := h.ext x
  obtain ⟨Fm, ps, h1, h2, h3, h4, h5, hgF, h7, h8⟩ := h'
  have gs : GB w3 (w3.setCell ⟨gc, 2 + who, none⟩ v) (· = gc) := (GB.refl w3 (· = gc)).set gc _ _ (.inl rfl)
  refine ⟨F, ⟨Fm, ps.set who v, h1.gb gs (fun i hi e => h4 (e ▸ hi)), ?_, by simpa using h3, h4, fun i u hu => ?_, hgF, h7, fun i hi => by simpa using h8 i hi⟩, (GB.of_ext F x).set gc _ _ (.inl hgF), fun i hi => .inl hi⟩
  · rw [← cnt_set2]
    exact blk_set h2 _ _
  · unfold updS
    by_cases e : i = who
    · subst e
      rw [if_pos rfl]
      by_cases hl : i < ps.length
      · rw [List.getElem?_set_self hl] at hu
        injection hu with hu
        subst hu
        exact p.gb gs (fun i e => e ▸ hgF) (fun _ _ h => h)
      · rw [List.getElem?_eq_none (by simp; omega)] at hu
        cases hu
    · rw [if_neg e]
      rw [List.getElem?_set_ne (fun h => e h.symm)] at hu
      exact (h5 i u hu).gb gs (fun i e => e ▸ hgF) (fun _ _ h => h)
theorem CntAt.cells {w : World} {F : Nat → Prop} {gc gm lim val who : Nat} {L : List AccE} {S : Nat → CallS} (h : CntAt w F gc gm lim val L S) (hw : who < 64) :
    w.cell? ⟨gc, 0, none⟩ = some (.pointer (some ⟨gm, 0, none⟩)) ∧ w.cell? ⟨gc, 1, none⟩ = some (.int .u64 (lim : Int)) ∧ (∃ v, w.cell? ⟨gc, 2 + who, none⟩ = some v ∧ PendAt w F gc who v (S who)) ∧ w.frozen? ⟨gc, 2 + who, none⟩ = false := by
  obtain ⟨Fm, ps, h1, h2, h3, h4, h5, _⟩ := h
  obtain ⟨v, hv⟩ : ∃ v, ps[who]? = some v := ⟨_, List.getElem?_eq_getElem (by omega)⟩
  exact ⟨(blk_cell h2 0).trans (by simp [cntCells]), (blk_cell h2 1).trans (by simp [cntCells]), ⟨v, (blk_cell h2 _).trans (cnt_cell2 hv), h5 who v hv⟩, blk_frozen h2 _⟩
theorem pend_func {w : World} {F : Nat → Prop} {gc who : Nat} {v : Value} {s : CallS} (h : PendAt w F gc who v s) (hs : s ≠ .idle) : ∃ f c, v = .func (.func f) #[] c := by
  cases s with
  | idle => exact absurd rfl hs
  | read => obtain ⟨p0, p1, h1, _⟩ := h; exact ⟨_, _, h1⟩
  | load stop e by_ => obtain ⟨p0, p1, p2, p3, p4, h1, _⟩ := h; exact ⟨_, _, h1⟩
  | swap n stop e by_ => obtain ⟨p0, p1, p2, p3, p4, p5, h1, _⟩ := h; exact ⟨_, _, h1⟩
def RetI (q : Int) (w : World) (e : Ending) (w' : World) : Prop := e = .returned (.int .i64 q) ∧ Ext w w'
set_option maxHeartbeats 1000000 in
theorem cstart_arg (w : World) (p : Option Addr) (who : Int) (op : Nat) (hop : op < 256) (hb : ¬ (0 ≤ who ∧ who < 64) ∨ op = 0 ∨ 3 < op) :
    Calls Try.prog 27 #[.pointer p, .int .i64 who, .int .u8 (op : Int)] w (RetI 1 w) := by
  by_cases hw : 0 ≤ who ∧ who < 64
  · have ho : op = 0 ∨ 3 < op := by
      rcases hb with h | h
      · exact absurd hw h
      · exact h
    clear hb
    by_cases h1 : (op : Int) < 1
    · clear ho
      go_enter Try.func27, Try.ntmps27
      go_wp2_with fail
      refine (cworker_ok _ who hw.1 hw.2).mono ?_
      rintro e w1 ⟨rfl, rfl⟩
      go_wp2_with fail
      go_ret
      exact ⟨rfl, ((Ext.refl w).alloc _).alloc _⟩
    · have h2 : (3 : Int) < (op : Int) := by omega
      clear ho
      go_enter Try.func27, Try.ntmps27
      go_wp2_with fail
      refine (cworker_ok _ who hw.1 hw.2).mono ?_
      rintro e w1 ⟨rfl, rfl⟩
      go_wp2_with fail
      go_ret
      exact ⟨rfl, ((Ext.refl w).alloc _).alloc _⟩
  · clear hb
    have HW := Lib.hid hw
    clear hw
    go_enter Try.func27, Try.ntmps27
    go_wp2_with fail
    refine (cworker_bad _ who HW.out).mono ?_
    rintro e w1 ⟨rfl, rfl⟩
    go_wp2_with fail
    go_ret
    exact ⟨rfl, ((Ext.refl w).alloc _).alloc _⟩
theorem cstart_nil (w : World) (who : Int) (op : Nat) (h1 : 0 ≤ who) (h2 : who < 64) (h3 : 1 ≤ op) (h4 : op ≤ 3) :
    Calls Try.prog 27 #[.pointer none, .int .i64 who, .int .u8 (op : Int)] w (RetI 7 w) := by
  have a1 : ¬ (op : Int) < 1 := by omega
  have a2 : ¬ (3 : Int) < (op : Int) := by omega
  go_enter Try.func27, Try.ntmps27
  go_wp2_with fail
  refine (cworker_ok _ who h1 h2).mono ?_
  rintro e w1 ⟨rfl, rfl⟩
  go_wp2_with fail
  go_ret
  exact ⟨rfl, ((Ext.refl w).alloc _).alloc _⟩
set_option maxHeartbeats 1000000 in
set_option maxRecDepth 100000 in
theorem cstart_busy (w : World) (F : Nat → Prop) (gc gm lim val who op : Nat) (L : List AccE) (S : Nat → CallS) (h : CntAt w F gc gm lim val L S) (hw : who < 64) (h3 : 1 ≤ op) (h4 : op ≤ 3) (hs : S who ≠ .idle) :
    Calls Try.prog 27 #[.pointer (some ⟨gc, 0, none⟩), .int .i64 (who : Int), .int .u8 (op : Int)] w (RetI 9 w) := by
  have a1 : ¬ (op : Int) < 1 := by omega
  have a2 : ¬ (3 : Int) < (op : Int) := by omega
  have a3 : (0 : Int) ≤ (who : Int) := by omega
  have a4 : (who : Int) < 64 := by omega
  have hq : ∀ (f : FuncId) (c : Array Value) (u : World), (binOp .neq 126 (.func (.func f) #[] c) .nilFunc).run Try.prog u = .ok (.bool true) u := fun _ _ _ => rfl
  have h' := h.ext (((Ext.refl w).alloc (.cells #[.pointer (some ⟨gc, 0, none⟩)] 60)).alloc (.cells #[.int .i64 (who : Int)] 3))
  obtain ⟨_, _, ⟨v, cv, pv⟩, _⟩ := h'.cells hw
  obtain ⟨f, c, rfl⟩ := pend_func pv hs
  clear pv h h' hs
  go_enter Try.func27, Try.ntmps27
  go_wp2_with fail
  refine (cworker_ok _ who a3 a4).mono ?_
  rintro e w1 ⟨rfl, rfl⟩
  go_wp2_with fail
  go_quiet (fail)
  go_wp2_with fail
  go_ret
  exact ⟨rfl, (((Ext.refl w).alloc _).alloc _).drewN _⟩
end Go.Proofs.Ytfjgpeffhbfihaa
