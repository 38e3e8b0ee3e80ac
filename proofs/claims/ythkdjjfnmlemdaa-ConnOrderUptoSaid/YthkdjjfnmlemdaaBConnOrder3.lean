/- Laid together: what 'ConnOrder' needs, part 3 of 6. -/
import Derived.Deep.DeepCutAuto
import Derived.Deep.RegionHeld3
import Derived.ProofKit
import Derived.OpenShut
import Derived.SizedLaws
import Derived.Test.YthkdjjfnmlemdaaBConnOrder1
import Derived.Test.YthkdjjfnmlemdaaBConnOrder2
namespace Go.Proofs.Ythkdjjfnmlemdaa

section
open Go.RowKit

set_option maxRecDepth 100000 in
theorem rundo_wrong (w : World) (ec : Nat) (v : Value) (older : List PanicEntry) (he : w.heap[ec]? = some (.cells #[v] 33 (0, 0))) :
    CallsD Try.prog 102 #[.pointer (some ⟨ec, 0, none⟩)] (.panicking ({ v := .iface 153 (.agg #[]), recovered := false } :: older)) w fun e u' w' =>
      e = .returned (.tuple #[]) ∧ u' = .panicking ({ v := .iface 153 (.agg #[]), recovered := true } :: older) ∧ (w.alloc (.cells #[] 153)).setCell ⟨ec, 0, none⟩ (.int .i64 3) = w' := by
  refine callsD_of_wpS Try.func102 rfl fun c₀ cs hu => ?_
  have hta : ∀ u : World, (Instr.typeAssert (.iface 153 (.agg #[])) 20 153 true).run Try.prog u = .ok (.tuple #[.agg #[], .bool true]) u := fun _ => by kernel_rfl
  have p3 := cell_past (blk_cell he 0); have p4 := fz_past he 0
  have He := Lib.hid he; clear he
  simp only [Try.ntmps102, List.size_toArray, List.length_cons, List.length_nil, Nat.reduceAdd, Nat.reduceSub, Array.replicate_succ, Array.replicate_zero, List.push_toArray, List.append_toArray, List.nil_append, List.cons_append]
  apply wpS_seq
  apply wpS_region
  simp [wpOpsS, go_sem, recoverD, hu, Exit.thenS]
  refine wpS_of_wp ?_
  refine wp_hideQ fun Q hQ => ?_
  have Hu := Lib.hid hu; clear hu
  go_wp2_with fail
  have hu := Hu.out
  exact ⟨rfl, _, rfl, _, results_none rfl _ _ _, rfl, rfl, rfl⟩
theorem rundo_idle (w : World) (p : Value) :
    CallsD Try.prog 102 #[p] .returning w fun e u' w' => e = .returned (.tuple #[]) ∧ u' = .returning ∧ w = w' := by
  refine callsD_of_wpS Try.func102 rfl fun c₀ cs hu => ?_
  simp only [Try.ntmps102, List.size_toArray, List.length_cons, List.length_nil, Nat.reduceAdd, Nat.reduceSub, Array.replicate_succ, Array.replicate_zero, List.push_toArray, List.append_toArray, List.nil_append, List.cons_append]
  apply wpS_seq
  apply wpS_region
  simp [wpOpsS, go_sem, recoverD, hu, Exit.thenS]
  refine wpS_of_wp ?_
  refine wp_hideQ fun Q hQ => ?_
  have Hu := Lib.hid hu; clear hu
  go_wp2_with fail
  have hu := Hu.out
  exact ⟨rfl, .returning, by cases c₀; simp at hu; subst hu; rfl, _, results_none rfl _ _ _, rfl, rfl, rfl⟩
theorem res_errno {tmps : Array Value} {w : World} {ec : Nat} {v : Value} {t : TypeId} (hp : tmps.getD 4 undef = .pointer (some ⟨ec, 0, none⟩)) (hc : w.heap[ec]? = some (.cells #[v] t (0, 0))) :
    (results Try.f76 tmps).run Try.prog w = .ok v w := by
  have h0 := blk_cell hc 0
  have hp' : tmps[4]?.getD undef = .pointer (some ⟨ec, 0, none⟩) := by simpa using hp
  simp [results, hp', asAddr, loadVar, h0, go_sem]
theorem read_long (w : World) (A : Option Addr) (n c : Nat) (f : Value) (hn : 4096 < n) :
    Calls Try.prog 76 #[.slice A n c, f] w (RetE (.int .i64 2) w) := by
  go_enter_defers Try.func76, Try.ntmps76
  go_wp2_with fail
  refine ⟨_, res_errno rfl (heap_alloc_new w _), ?_⟩
  exact ⟨rfl, (Ext.refl w).alloc _⟩

/-- the closure's way: it takes what it needs off the reader r, and lays it into block g -/
def ByR (t : TypeId) (cs : Option Addr → Nat → Array Value) (xs rest : List Nat) (r S g : Nat) (W : World) (e : Ending) (w' : World) : Prop :=
  ∃ A c wm, e = .returned (.tuple #[]) ∧ W.grownBy wm (some r) ∧ wm.grownBy w' (some g) ∧ w'.heap[g]? = some (.cells (cs A c) t (0, 0)) ∧ w'.ownsRow W.heap.size 5 1 (.slice A xs.length c) xs.length (vals .u8 xs) ∧ IsWs w' r S rest
theorem blk_far2 (w : World) (o o' : Obj) (g : Nat) (hg : g < w.heap.size) : ((w.alloc o).alloc o').heap[g]? = w.heap[g]? :=
  (Below.heap_alloc (w.alloc o) o' g (by simp; omega)).trans (Below.heap_alloc w o g hg)
theorem grown_new2 {w W wm w2 : World} {r g : Nat} (h : Ext w W) (h1 : W.grownBy wm (some r)) (h2 : wm.grownBy w2 (some g)) (hr : w.heap.size ≤ r) : w.grownBy w2 (some g) :=
  World.grown_trans (grown_new (grown_none h (some g)) h1 hr) h2
set_option maxHeartbeats 1000000 in
set_option maxRecDepth 100000 in
theorem read_goodQ (w : World) (A0 : Option Addr) (n c0 g : Nat) (t : TypeId) (cs : Option Addr → Nat → Array Value) (ys xs : List Nat) (hl : ys.length = n) (hn : n ≤ 4096) (hnc : n ≤ c0) (hr : Rd w A0 (vals .u8 ys)) (hg : g < w.heap.size) (S : Nat) (hSw : S ≤ w.heap.size) (hA0 : ys ≠ [] → ∀ a, A0 = some a → a.block < S)
    (HC0 : ∀ W r, IsWs W r S ys → w.heap.size ≤ r → W.heap[g]? = w.heap[g]? → w.heap.size ≤ W.heap.size → Calls Try.prog 77 #[.pointer (some ⟨r, 0, none⟩), .pointer (some ⟨g, 0, none⟩)] W (ByR t cs xs [] r S g W)) :
    Calls Try.prog 76 #[.slice A0 n c0, .func (.func 77) #[] #[.pointer (some ⟨g, 0, none⟩)]] w fun e w' => ∃ A c, e = .returned (.int .i64 0) ∧ w.grownBy w' (some g) ∧ w'.heap[g]? = some (.cells (cs A c) t (0, 0)) ∧ w'.ownsRow w.heap.size 5 1 (.slice A xs.length c) xs.length (vals .u8 xs) := by
  have hmf : ∀ (fn : Fn) (first cap : Array Value) (w : World), (Instr.makeFunc fn first cap).run Try.prog w = .ok (.func fn first cap) w := fun _ _ _ _ => rfl
  have HC := Lib.hid HC0; clear HC0
  have hws : ∀ o o' : Obj, Rd ((w.alloc o).alloc o') A0 (vals .u8 ys) := fun o o' => (hr.alloc o).alloc o'
  have hlt : ∀ a, A0 = some a → ys ≠ [] → a.block < S := fun a ha hne => hA0 hne a ha
  have Hws := Lib.hid hws; have Hlt := Lib.hid hlt; have Hl := Lib.hid hl
  have Hg := Lib.hid (fun o o' : Obj => (blk_far2 w o o' g hg)); clear hws hlt hl hr hA0
  go_enter_defers Try.func76, Try.ntmps76
  go_wp2_with fail
  obtain ⟨W, hW⟩ : ∃ W, (w.alloc (.cells #[.int .i64 0] 33)).alloc (.cells #[.slice A0 n c0] 155) = W := ⟨_, rfl⟩
  have hsW : w.heap.size + 2 = W.heap.size := by rw [← hW]; simp
  have hIW : IsWs W (w.heap.size + 1) S ys := by
    rw [← hW]
    refine ⟨A0, c0, ?_, by rw [Hl.out]; exact hnc, Hws.out _ _, fun hne a ha => ?_⟩
    · rw [Hl.out]; exact blk_newk _ _ (by simp)
    · have := Hlt.out a ha hne; exact ⟨by omega, this⟩
  have hEW : W.heap[w.heap.size]? = some (.cells #[.int .i64 0] 33 (0, 0)) := by rw [← hW]; exact blk_past (blk_new w _) _
  have hgW : W.heap[g]? = w.heap[g]? := by rw [← hW]; exact Hg.out _ _
  have hGW : Ext w W := by rw [← hW]; exact ((Ext.refl w).alloc _).alloc _
  have C := Lib.hid (HC.out W (w.heap.size + 1) hIW (by omega) hgW (by omega))
  have HE := Lib.hid hEW; have HGW := Lib.hid hGW
  rw [hW]
  clear hW hIW hEW hgW hGW HC Hws Hg
  refine C.out.mono ?_
  rintro e w2 ⟨A, c, wm, rfl, hg1, hg2, hcs, ho, hS⟩
  obtain ⟨A2, c2, hw2, _, _, _⟩ := hS
  have h0 : w2.cell? ⟨w.heap.size + 1, 0, none⟩ = some (.slice A2 0 c2) := blk_cell hw2 0
  have HE2 := Lib.hid (blk_grown (blk_grown HE.out hg1 (by omega)) hg2 (by omega))
  have HG2 := Lib.hid (grown_new2 HGW.out hg1 hg2 (by omega))
  have Hcs := Lib.hid hcs; have Ho := Lib.hid ho
  have hs2 : W.heap.size ≤ w2.heap.size := Nat.le_trans hg1.size hg2.size
  clear hg1 hg2 hcs ho hw2 C HE HGW
  go_wp2_with fail
  refine (must_ok _ _).mono ?_
  rintro e w' ⟨rfl, rfl⟩
  have e0 := blk_cell HE2.out 0; have f0 := blk_frozen HE2.out 0
  go_wp2_with fail
  refine leaves_cons (f := 102) (args := #[.pointer (some ⟨w.heap.size, 0, none⟩)]) (by simp) (by simp [go_sem]) ?_
  refine (rundo_idle _ _).mono ?_
  rintro e u' w'' ⟨rfl, rfl, rfl⟩
  have hG := grown_set w2 w.heap.size 0 (.int .i64 0)
  have hoo : w2.ownsRow (w.heap.size + 1) 5 1 (.slice A xs.length c) xs.length (vals .u8 xs) := own_base Ho.out (by omega)
  exact ⟨_, res_errno rfl (blk_set HE2.out 0 _), A, c, rfl, grown_setNew HG2.out (Nat.le_refl _) 0 _, blk_grown' Hcs.out hG (by omega), own_base (hoo.kept hG (own_ne hoo (by omega))) (by omega)⟩
set_option maxHeartbeats 1000000 in
set_option maxRecDepth 100000 in
theorem read_moreQ (w : World) (A0 : Option Addr) (n c0 g : Nat) (t : TypeId) (cs : Option Addr → Nat → Array Value) (ys xs rest : List Nat) (hrest : rest ≠ []) (hl : ys.length = n) (hn : n ≤ 4096) (hnc : n ≤ c0) (hr : Rd w A0 (vals .u8 ys)) (hg : g < w.heap.size) (S : Nat) (hSw : S ≤ w.heap.size) (hA0 : ys ≠ [] → ∀ a, A0 = some a → a.block < S)
    (HC0 : ∀ W r, IsWs W r S ys → w.heap.size ≤ r → W.heap[g]? = w.heap[g]? → w.heap.size ≤ W.heap.size → Calls Try.prog 77 #[.pointer (some ⟨r, 0, none⟩), .pointer (some ⟨g, 0, none⟩)] W (ByR t cs xs rest r S g W)) :
    Calls Try.prog 76 #[.slice A0 n c0, .func (.func 77) #[] #[.pointer (some ⟨g, 0, none⟩)]] w fun e w' => e = .returned (.int .i64 3) ∧ w.grownBy w' (some g) := by
  have hmf : ∀ (fn : Fn) (first cap : Array Value) (w : World), (Instr.makeFunc fn first cap).run Try.prog w = .ok (.func fn first cap) w := fun _ _ _ _ => rfl
  have HC := Lib.hid HC0; clear HC0
  have hws : ∀ o o' : Obj, Rd ((w.alloc o).alloc o') A0 (vals .u8 ys) := fun o o' => (hr.alloc o).alloc o'
  have hlt : ∀ a, A0 = some a → ys ≠ [] → a.block < S := fun a ha hne => hA0 hne a ha
  have Hws := Lib.hid hws; have Hlt := Lib.hid hlt; have Hl := Lib.hid hl
  have Hg := Lib.hid (fun o o' : Obj => (blk_far2 w o o' g hg)); clear hws hlt hl hr hA0
  go_enter_defers Try.func76, Try.ntmps76
  go_wp2_with fail
  obtain ⟨W, hW⟩ : ∃ W, (w.alloc (.cells #[.int .i64 0] 33)).alloc (.cells #[.slice A0 n c0] 155) = W := ⟨_, rfl⟩
  have hsW : w.heap.size + 2 = W.heap.size := by rw [← hW]; simp
  have hIW : IsWs W (w.heap.size + 1) S ys := by
    rw [← hW]
    refine ⟨A0, c0, ?_, by rw [Hl.out]; exact hnc, Hws.out _ _, fun hne a ha => ?_⟩
    · rw [Hl.out]; exact blk_newk _ _ (by simp)
    · have := Hlt.out a ha hne; exact ⟨by omega, this⟩
  have hEW : W.heap[w.heap.size]? = some (.cells #[.int .i64 0] 33 (0, 0)) := by rw [← hW]; exact blk_past (blk_new w _) _
  have hgW : W.heap[g]? = w.heap[g]? := by rw [← hW]; exact Hg.out _ _
  have hGW : Ext w W := by rw [← hW]; exact ((Ext.refl w).alloc _).alloc _
  have C := Lib.hid (HC.out W (w.heap.size + 1) hIW (by omega) hgW (by omega))
  have HE := Lib.hid hEW; have HGW := Lib.hid hGW
  rw [hW]
  clear hW hIW hEW hgW hGW HC Hws Hg
  refine C.out.mono ?_
  rintro e w2 ⟨A, c, wm, rfl, hg1, hg2, hcs, ho, hS⟩
  obtain ⟨A2, c2, hw2, _, _, _⟩ := hS
  have h0 : w2.cell? ⟨w.heap.size + 1, 0, none⟩ = some (.slice A2 rest.length c2) := blk_cell hw2 0
  have hlen : ((rest.length : Int) == 0) = false := by
    rw [beq_eq_false_iff_ne]
    have := List.length_pos_iff.2 hrest
    omega
  have HE2 := Lib.hid (blk_grown (blk_grown HE.out hg1 (by omega)) hg2 (by omega))
  have HG2 := Lib.hid (grown_new2 HGW.out hg1 hg2 (by omega))
  clear hg1 hg2 hcs ho hw2 C HE HGW
  go_wp2_with fail
  refine (must_no _ _).mono ?_
  rintro e w' ⟨rfl, rfl⟩
  go_wp2_with fail
  refine leaves_cons (f := 102) (args := #[.pointer (some ⟨w.heap.size, 0, none⟩)]) (by simp) (by simp [go_sem]) ?_
  refine (rundo_wrong _ w.heap.size _ [] HE2.out).mono ?_
  rintro e u' w'' ⟨rfl, rfl, rfl⟩
  exact ⟨_, res_errno rfl (blk_set (blk_past HE2.out _) 0 _), rfl, grown_setNew (grown_alloc HG2.out _) (Nat.le_refl _) 0 _⟩
set_option maxHeartbeats 1000000 in
set_option maxRecDepth 100000 in
theorem read_wrongQ (w : World) (A0 : Option Addr) (n c0 g : Nat) (ys : List Nat) (hl : ys.length = n) (hn : n ≤ 4096) (hnc : n ≤ c0) (hr : Rd w A0 (vals .u8 ys)) (hg : g < w.heap.size) (S : Nat) (hSw : S ≤ w.heap.size) (hA0 : ys ≠ [] → ∀ a, A0 = some a → a.block < S)
    (HC0 : ∀ W r, IsWs W r S ys → w.heap.size ≤ r → W.heap[g]? = w.heap[g]? → w.heap.size ≤ W.heap.size → Calls Try.prog 77 #[.pointer (some ⟨r, 0, none⟩), .pointer (some ⟨g, 0, none⟩)] W (WrongR W r)) :
    Calls Try.prog 76 #[.slice A0 n c0, .func (.func 77) #[] #[.pointer (some ⟨g, 0, none⟩)]] w fun e w' => e = .returned (.int .i64 3) ∧ w.grownBy w' (some g) := by
  have hmf : ∀ (fn : Fn) (first cap : Array Value) (w : World), (Instr.makeFunc fn first cap).run Try.prog w = .ok (.func fn first cap) w := fun _ _ _ _ => rfl
  have HC := Lib.hid HC0; clear HC0
  have hws : ∀ o o' : Obj, Rd ((w.alloc o).alloc o') A0 (vals .u8 ys) := fun o o' => (hr.alloc o).alloc o'
  have hlt : ∀ a, A0 = some a → ys ≠ [] → a.block < S := fun a ha hne => hA0 hne a ha
  have Hws := Lib.hid hws; have Hlt := Lib.hid hlt; have Hl := Lib.hid hl
  have Hg := Lib.hid (fun o o' : Obj => (blk_far2 w o o' g hg)); clear hws hlt hl hr hA0
  go_enter_defers Try.func76, Try.ntmps76
  go_wp2_with fail
  obtain ⟨W, hW⟩ : ∃ W, (w.alloc (.cells #[.int .i64 0] 33)).alloc (.cells #[.slice A0 n c0] 155) = W := ⟨_, rfl⟩
  have hsW : w.heap.size + 2 = W.heap.size := by rw [← hW]; simp
  have hIW : IsWs W (w.heap.size + 1) S ys := by
    rw [← hW]
    refine ⟨A0, c0, ?_, by rw [Hl.out]; exact hnc, Hws.out _ _, fun hne a ha => ?_⟩
    · rw [Hl.out]; exact blk_newk _ _ (by simp)
    · have := Hlt.out a ha hne; exact ⟨by omega, this⟩
  have hEW : W.heap[w.heap.size]? = some (.cells #[.int .i64 0] 33 (0, 0)) := by rw [← hW]; exact blk_past (blk_new w _) _
  have hgW : W.heap[g]? = w.heap[g]? := by rw [← hW]; exact Hg.out _ _
  have hGW : Ext w W := by rw [← hW]; exact ((Ext.refl w).alloc _).alloc _
  have C := Lib.hid (HC.out W (w.heap.size + 1) hIW (by omega) hgW (by omega))
  have HE := Lib.hid hEW; have HGW := Lib.hid hGW
  rw [hW]
  clear hW hIW hEW hgW hGW HC Hws Hg
  refine C.out.mono ?_
  rintro e w2 ⟨rfl, hg1⟩
  have HE2 := Lib.hid (blk_grown HE.out hg1 (by omega))
  have HG2 := Lib.hid (grown_new (grown_none HGW.out (some g)) hg1 (by omega))
  clear hg1 C HE HGW
  go_wp2_with fail
  refine leaves_cons (f := 102) (args := #[.pointer (some ⟨w.heap.size, 0, none⟩)]) (by simp) (by simp [go_sem]) ?_
  refine (rundo_wrong _ w.heap.size _ [] HE2.out).mono ?_
  rintro e u' w'' ⟨rfl, rfl, rfl⟩
  exact ⟨_, res_errno rfl (blk_set (blk_past HE2.out _) 0 _), rfl, grown_setNew (grown_alloc HG2.out _) (Nat.le_refl _) 0 _⟩

/-- what ReadRequest's closure does -/
theorem byReq (w : World) (r S g : Nat) (ys : List Nat) (op p N : Nat) (xs rest : List Nat) (hS : S ≤ w.heap.size) (hb : ∀ x ∈ ys, x < 256) (hB : Begins ys op p xs N rest) (h : IsWs w r S ys) (hg : S ≤ g) (hgw : g < w.heap.size) (hgr : g ≠ r) (hc : w.heap[g]? = some (.cells #[.int .u8 0, .int .i64 0, .slice none 0 0, .int .i64 0] 63 (0, 0))) :
    Calls Try.prog 77 #[.pointer (some ⟨r, 0, none⟩), .pointer (some ⟨g, 0, none⟩)] w (ByR 63 (fun A c => #[.int .u8 (op : Int), .int .i64 (p : Int), .slice A xs.length c, .int .i64 (N : Int)]) xs rest r S g w) := by
  have C := Lib.hid (call_good ys op p xs N rest hb hB w r S hS h)
  have Hc := Lib.hid hc
  clear hb hB h hc
  go_enter Try.func77, Try.ntmps77
  go_wp2_with fail
  refine C.out.mono ?_
  rintro e w1 ⟨A, c, rfl, ho, hI, hG⟩
  have K := Lib.hid (blk_grown Hc.out hG hgr)
  have Ho := Lib.hid ho; have HI := Lib.hid hI; have HG := Lib.hid hG
  clear ho hI hG C
  have k0 := blk_cell K.out 0; have k1 := blk_cell K.out 1; have k2 := blk_cell K.out 2; have k3 := blk_cell K.out 3
  have f0 := blk_frozen K.out 0; have f1 := blk_frozen K.out 1; have f2 := blk_frozen K.out 2; have f3 := blk_frozen K.out 3
  go_wp2_with fail
  go_end0
  have hG := grown_setCell (grown_setCell (grown_setCell (grown_set w1 g 0 (.int .u8 (op : Int))) 1 (.int .i64 (p : Int))) 2 (.slice A xs.length c)) 3 (.int .i64 (N : Int))
  refine ⟨A, c, w1, rfl, HG.out, hG, row4 K.out _ _ _ _, Ho.out.kept hG (own_ne Ho.out (by omega)), HI.out.grown hG (fun k hk => by injection hk with hk; omega)⟩
theorem byReq_wrong (w : World) (r S g : Nat) (ys : List Nat) (hS : S ≤ w.heap.size) (hb : ∀ x ∈ ys, x < 256) (hl : ys.length ≤ 4096) (hB : ¬ ∃ op p xs N rest, Begins ys op p xs N rest) (h : IsWs w r S ys) :
    Calls Try.prog 77 #[.pointer (some ⟨r, 0, none⟩), .pointer (some ⟨g, 0, none⟩)] w (WrongR w r) := by
  have C := Lib.hid (call_wrong ys hb hl hB w r S hS h)
  clear hb hB h
  go_enter Try.func77, Try.ntmps77
  go_wp2_with fail
  refine C.out.mono ?_
  rintro e w1 ⟨rfl, hG⟩
  exact ⟨rfl, rfl, hG⟩
end

section
open Go.RowKit

theorem form_ok (N : Int) (w : World) (h : 0 ≤ N) (h' : N ≤ 4611686018427387903) : Calls Try.prog 72 #[.int .i64 N] w fun e w' => e = .returned (.bool true) ∧ w = w' := by
  go_enter Try.func72, Try.ntmps72
  go_wp2_with fail
  go_ret
  exact ⟨rfl, rfl⟩
theorem form_bad (N : Int) (w : World) (h : N < 0 ∨ 4611686018427387903 < N) : Calls Try.prog 72 #[.int .i64 N] w fun e w' => e = .returned (.bool false) ∧ w = w' := by
  rcases h with h | h
  · go_enter Try.func72, Try.ntmps72
    go_wp2_with fail
    go_ret
    exact ⟨rfl, rfl⟩
  · have h' : 0 ≤ N := by omega
    go_enter Try.func72, Try.ntmps72
    go_wp2_with fail
    go_ret
    exact ⟨ret_bool (by simp; omega), rfl⟩

set_option maxHeartbeats 2000000 in
theorem wireNum_any (w w0 : World) (base : Nat) (A : Option Addr) (m c : Nat) (xs : List Nat) (v : Nat) (hl : xs.length = m) (ho : w.ownsRow base 5 1 (.slice A m c) m (vals .u8 xs)) (hx : Ext w0 w) (hbase : w0.heap.size ≤ base) (hbw : base ≤ w.heap.size)
    (hv : v < 9223372036854775808) (hm : m ≤ 1000000) :
    Calls Try.prog 73 #[.slice A m c, .int .i64 (v : Int)] w fun e w' => ∃ A' c', e = .returned (.slice A' (m + 8) c') ∧ w'.ownsRow base 5 1 (.slice A' (m + 8) c') (m + 8) (vals .u8 (xs ++ wordB v 8)) ∧ Ext w0 w' ∧ w.heap.size ≤ w'.heap.size := by
  have Ho := Lib.hid ho; have Hl := Lib.hid hl; clear ho hl
  go_enter Try.func73, Try.ntmps73
  go_wp2_with fail
  go_loopg [0, 5] 8 (fun g v0 v5 wr => ∃ (j : Nat) (A' : Option Addr) (c' : Nat), j ≤ 8 ∧ g = 8 - j ∧ v0 = .slice A' (m + j) c' ∧ v5 = .int .i64 (56 - 8 * (j : Int)) ∧ Ext w0 wr ∧ w.heap.size ≤ wr.heap.size ∧
    wr.ownsRow base 5 1 (.slice A' (m + j) c') (m + j) (vals .u8 (xs ++ (wordB v 8).take j)))
  case atStart =>
    exact ⟨0, A, c, Nat.zero_le _, rfl, rfl, by go_num, hx, Nat.le_refl _, by simpa using Ho.out⟩
  case round =>
    obtain ⟨j, A', c', hj, rfl, rfl, rfl, hxr, hsz, hor⟩ := hrel
    have Hxr := Lib.hid hxr; clear hxr
    by_cases hlt : j < 8
    · have hg := wordB_get v 8 j hlt
      obtain ⟨t, ht⟩ : ∃ t, t = 8 * (7 - j) := ⟨_, rfl⟩
      have e1 : (56 - 8 * (j : Int)) = (t : Int) := by omega
      have e2 : v / 256 ^ (8 - 1 - j) % 256 = v / 2 ^ t % 256 := by
        rw [ht, show (256 : Nat) = 2 ^ 8 from rfl, ← Nat.pow_mul]
      rw [e2] at hg
      rw [e1]
      have Hg := Lib.hid hg
      have hib := Lib.hid (show ((v : Int) / 2 ^ t % 256) = ((v / 2 ^ t % 256 : Nat) : Int) by simp only [Int.natCast_emod, Int.natCast_ediv, Int.natCast_pow]; rfl)
      have ht56 : t ≤ 56 := by omega
      have Ht := Lib.hid ht
      clear hg e1 e2 ht
      have hs1 : wr.heap.size ≥ base := by omega
      go_wp2_with (first | (at_builtin; refine app_u8 _ rfl (.tmp 10) (.tmp 16) rfl base rfl (hor.alloc _) rfl (m := 1) (news := [v / 2 ^ t % 256]) rfl (rd_one _ _ _ hib.out) (by omega) (by simp; omega) ?_; intro A1 c1 w1 hown1 hgrow1 _) | fail)
      go_roundg (8 - (j + 1))
      case measure => omega
      case rel =>
        refine ⟨j + 1, A1, c1, hlt, rfl, rfl, by have := Ht.out; go_num, (Hxr.out.alloc _).grown hgrow1 (fun k hk => Nat.le_trans hbase (own_ge hor k hk)), by have := hgrow1.size; simp at this; omega, ?_⟩
        rw [take_succ_of Hg.out, ← List.append_assoc]
        exact hown1
    · obtain rfl : j = 8 := by omega
      have e : (wordB v 8).take 8 = wordB v 8 := List.take_of_length_le (by rw [wordB_len]; omega)
      rw [e] at hor
      have Hor := Lib.hid hor
      clear hor e
      go_wp2_with fail
      go_ret
      exact ⟨A', c', rfl, Hor.out, Hxr.out, hsz⟩

/-- Request: an Op that is none -/
theorem req_bad (w : World) (op p N : Int) (A : Option Addr) (n c : Nat) (_h0 : 0 ≤ op) (h : op < 1 ∨ 6 < op) :
    Calls Try.prog 36 #[callV op p A n c N] w (RetBE [] 1 w) := by
  have q1 : (op == 1) = false := by rw [beq_eq_false_iff_ne]; omega
  have q2 : (op == 2) = false := by rw [beq_eq_false_iff_ne]; omega
  have q3 : (op == 3) = false := by rw [beq_eq_false_iff_ne]; omega
  have q4 : (op == 4) = false := by rw [beq_eq_false_iff_ne]; omega
  have q5 : (op == 5) = false := by rw [beq_eq_false_iff_ne]; omega
  have q6 : (op == 6) = false := by rw [beq_eq_false_iff_ne]; omega
  go_enter Try.func36, Try.ntmps36
  go_wp2_with fail
  go_ret2
  exact retBE_none ⟨rfl, (Ext.refl w).alloc _⟩
theorem req1_num (w : World) (p N : Int) (A : Option Addr) (n c : Nat) (h : N < 0 ∨ 4611686018427387903 < N) :
    Calls Try.prog 36 #[callV 1 p A n c N] w (RetBE [] 1 w) := by
  go_enter Try.func36, Try.ntmps36
  go_wp2_with fail
  refine (form_bad N _ h).mono ?_
  rintro e w1 ⟨rfl, rfl⟩
  go_wp2_with fail
  go_ret2
  exact retBE_none ⟨rfl, (Ext.refl w).alloc _⟩
theorem req1_err (w : World) (p N : Int) (A : Option Addr) (n c : Nat) (q : Int) (hq : (q == 0) = false) (h1 : 0 ≤ N) (h2 : N ≤ 4611686018427387903) (hI : ∀ w, Calls Try.prog 65 #[.int .i64 p, .slice A n c] w fun e w' => e = .returned (.tuple #[.slice none 0 0, .int .i64 q]) ∧ w = w') :
    Calls Try.prog 36 #[callV 1 p A n c N] w (RetBE [] q w) := by
  have HI := Lib.hid hI; clear hI
  have hq' : (q != 0) = true := by simp [bne, hq]
  go_enter Try.func36, Try.ntmps36
  go_wp2_with fail
  refine (form_ok N _ h1 h2).mono ?_
  rintro e w1 ⟨rfl, rfl⟩
  go_wp2_with fail
  refine (HI.out _).mono ?_
  rintro e w1 ⟨rfl, rfl⟩
  go_wp2_with fail
  go_ret2
  exact retBE_none ⟨rfl, (Ext.refl w).alloc _⟩
theorem req2_err (w : World) (p N : Int) (A : Option Addr) (n c : Nat) (q : Int) (hq : (q == 0) = false) (hI : ∀ w, Calls Try.prog 65 #[.int .i64 p, .slice A n c] w fun e w' => e = .returned (.tuple #[.slice none 0 0, .int .i64 q]) ∧ w = w') :
    Calls Try.prog 36 #[callV 2 p A n c N] w (RetBE [] q w) := by
  have HI := Lib.hid hI; clear hI
  have hq' : (q != 0) = true := by simp [bne, hq]
  go_enter Try.func36, Try.ntmps36
  go_wp2_with fail
  refine (HI.out _).mono ?_
  rintro e w1 ⟨rfl, rfl⟩
  go_wp2_with fail
  go_ret2
  exact retBE_none ⟨rfl, (Ext.refl w).alloc _⟩
theorem req4_err (w : World) (p N : Int) (A : Option Addr) (n c : Nat) (q : Int) (hq : (q == 0) = false) (hI : ∀ w, Calls Try.prog 65 #[.int .i64 p, .slice A n c] w fun e w' => e = .returned (.tuple #[.slice none 0 0, .int .i64 q]) ∧ w = w') :
    Calls Try.prog 36 #[callV 4 p A n c N] w (RetBE [] q w) := by
  have HI := Lib.hid hI; clear hI
  have hq' : (q != 0) = true := by simp [bne, hq]
  go_enter Try.func36, Try.ntmps36
  go_wp2_with fail
  refine (HI.out _).mono ?_
  rintro e w1 ⟨rfl, rfl⟩
  go_wp2_with fail
  go_ret2
  exact retBE_none ⟨rfl, (Ext.refl w).alloc _⟩
theorem own_b1 (w : World) (x : Int) (y : Nat) (h : x = (y : Int)) : (w.alloc (.cells #[.int .u8 x] 5)).ownsRow w.heap.size 5 1 (.slice (some ⟨w.heap.size, 0, none⟩) 1 1) 1 (vals .u8 [y]) := by
  subst h
  exact own1 w y
theorem req5_ok (w : World) (p N : Int) (A : Option Addr) (n c : Nat) :
    Calls Try.prog 36 #[callV 5 p A n c N] w (RetBE [5] 0 w) := by
  go_enter Try.func36, Try.ntmps36
  go_wp2_with fail
  go_ret2
  have h := own_b1 (w.alloc (.cells #[.int .u8 5, .int .i64 p, .slice A n c, .int .i64 N] 63)) 5 5 rfl
  rw [World.size_alloc] at h
  exact retBE_of rfl (own_base h (by omega)) (((Ext.refl w).alloc _).alloc _)
theorem req6_ok (w : World) (p N : Int) (A : Option Addr) (n c : Nat) :
    Calls Try.prog 36 #[callV 6 p A n c N] w (RetBE [6] 0 w) := by
  go_enter Try.func36, Try.ntmps36
  go_wp2_with fail
  go_ret2
  have h := own_b1 (w.alloc (.cells #[.int .u8 6, .int .i64 p, .slice A n c, .int .i64 N] 63)) 6 6 rfl
  rw [World.size_alloc] at h
  exact retBE_of rfl (own_base h (by omega)) (((Ext.refl w).alloc _).alloc _)
theorem req3_err (w : World) (p N : Int) (A : Option Addr) (n c : Nat) (xs : List Nat) (q : Int) (hq : (q == 0) = false) (hr : Rd w A (vals .u8 xs)) (hI : ∀ w, Rd w A (vals .u8 xs) → Calls Try.prog 30 #[tokV p A n c N] w (RetBE [] q w)) :
    Calls Try.prog 36 #[callV 3 p A n c N] w (RetBE [] q w) := by
  have HI := Lib.hid hI; have Hr := Lib.hid hr; clear hI hr
  have hq' : (q != 0) = true := by simp [bne, hq]
  go_enter Try.func36, Try.ntmps36
  go_wp2_with fail
  refine (HI.out _ (Hr.out.alloc _)).mono ?_
  rintro e w1 ⟨A1, c1, rfl, hown, hy⟩
  clear hown
  have hx : Ext w w1 := ((Ext.refl w).alloc _).trans hy
  go_wp2_with fail
  go_ret2
  exact retBE_none ⟨rfl, hx⟩
set_option maxHeartbeats 1000000 in
theorem req3_ok (w : World) (p N : Int) (A : Option Addr) (n c : Nat) (xs L : List Nat) (k : Nat) (hk : L.length = k) (hk' : k ≤ 1000) (hr : Rd w A (vals .u8 xs)) (hI : ∀ w, Rd w A (vals .u8 xs) → Calls Try.prog 30 #[tokV p A n c N] w (RetBE L 0 w)) :
    Calls Try.prog 36 #[callV 3 p A n c N] w (RetBE (3 :: L) 0 w) := by
  have HI := Lib.hid hI; have Hr := Lib.hid hr; have Hk := Lib.hid hk; clear hI hr hk
  go_enter Try.func36, Try.ntmps36
  go_wp2_with fail
  refine (HI.out _ (Hr.out.alloc _)).mono ?_
  rintro e w1 ⟨A1, c1, rfl, hown, hy⟩
  rw [Hk.out] at hown ⊢
  have hx : Ext w w1 := ((Ext.refl w).alloc _).trans hy
  have R1 := Lib.hid (Rd.of_own hown)
  have k0 : w1.cell? ⟨w.heap.size, 0, none⟩ = some (.int .u8 3) := by
    rw [hy.cell (p := ⟨w.heap.size, 0, none⟩) (by simp)]
    exact World.cell?_alloc_new _ _ _ _
  clear hown
  have hs : w.heap.size ≤ w1.heap.size := hx.size
  go_wp2_with (first | (at_builtin; refine app_u8 _ rfl (.tmp 35) (.tmp 36) rfl w1.heap.size rfl (own_b1 w1 3 3 rfl) rfl Hk.out (R1.out.alloc _) (by omega) (by simp) ?_; intro A2 c2 w2 hown2 hgrow2 _) | fail)
  go_ret2
  refine retBE_of ?_ (own_base hown2 hs) ((hx.alloc _).grown hgrow2 (fun q hq => by simp [Value.ownBlock] at hq; omega))
  show (3 :: L).length = _
  rw [List.length_cons, Hk.out, Nat.add_comm]
end

section
open Go.RowKit

set_option maxHeartbeats 2000000 in
theorem req1_ok (w : World) (p N : Nat) (A : Option Addr) (n c : Nat) (xs : List Nat) (hl : xs.length = n) (hr : Rd w A (vals .u8 xs)) (h4 : p < 32) (hn : n ≤ 255) (hN : N ≤ 4611686018427387903) :
    Calls Try.prog 36 #[callV 1 (p : Int) A n c (N : Int)] w (RetBE (1 :: p :: xs.length :: (xs ++ wordB N 8)) 0 w) := by
  have Hl := Lib.hid hl; have Hr := Lib.hid hr; clear hl hr
  go_enter Try.func36, Try.ntmps36
  go_wp2_with fail
  refine (form_ok (N : Int) _ (by omega) (by omega)).mono ?_
  rintro e w1 ⟨rfl, rfl⟩
  go_wp2_with fail
  refine (ident_ok p A n c xs _ h4 Hl.out hn (Hr.out.alloc _)).mono ?_
  rintro e w1 ⟨A1, c1, rfl, hown1, hx1⟩
  have hl1 : (p :: xs).length = n + 1 := by rw [List.length_cons, Hl.out]
  rw [hl1] at hown1 ⊢
  clear hl1
  obtain ⟨g, rfl, hg, hg'⟩ := own_block hown1 (by omega)
  have hc0 := hown1.cellAt 0 (by omega)
  have hc0' : w1.cell? ⟨g, 0, none⟩ = some (.int .u8 (p : Int)) := by rw [hc0]; rfl
  have hK : Hid (w1.heap[w.heap.size]? = some (.cells #[.int .u8 1, .int .i64 p, .slice A n c, .int .i64 (N : Int)] 63 (0, 0))) := blk_ext (blk_new w _) hx1
  have b0 := blk_cell hK.out 0; have b2 := blk_cell hK.out 2
  have hr2 := Lib.hid (Hr.out.ext (((Ext.refl w).alloc _).trans hx1))
  have hs1 : w.heap.size + 1 ≤ w1.heap.size := by have := hx1.size; simpa using this
  clear hc0 hown1
  go_upto_region 19 with fail
  go_cut [8] (fun v wd => ∃ A6 c6, v = .slice A6 (3 + n) c6 ∧ wd.ownsRow w1.heap.size 5 1 (.slice A6 (3 + n) c6) (3 + n) (vals .u8 ([1, p, n] ++ xs)) ∧ Ext w1 wd)
  case first =>
    have hwn : IntKind.u8.wrap (n : Int) = (n : Int) := by rw [IntKind.wrap_u8]; omega
    have hoo : (w1.alloc (.cells #[.int .u8 1, .int .u8 (p : Int), .int .u8 (n : Int)] 5)).drew.ownsRow w1.heap.size 5 1 (.slice (some ⟨w1.heap.size, 0, none⟩) 3 3) 3 (vals .u8 [1, p, n]) := own_made w1 _ 5 1 3 rfl (by unfold maxLen; omega) (Nat.le_refl _)
    have hrr : Rd (w1.alloc (.cells #[.int .u8 1, .int .u8 (p : Int), .int .u8 (n : Int)] 5)).drew A (vals .u8 xs) := (hr2.out.alloc _).drew
    have b2' := cell_past b2
    have Hoo := Lib.hid hoo; have Hrr := Lib.hid hrr; clear hoo hrr
    go_region_held3 (fun w' => w'.cell? ⟨w.heap.size, 0, none⟩ = some (.int .u8 1) ∧ w'.cell? ⟨w.heap.size, 2, none⟩ = some (.slice A n c) ∧ w'.cell? ⟨g, 0, none⟩ = some (.int .u8 (p : Int))) (first | exact ⟨ext_cell hx6 b0, ext_cell hx6 b2, ext_cell hx6 hc0'⟩ | go_keep | (simp; assumption)) ((refine step_app_u8 (w1.alloc (.cells #[.int .u8 1, .int .u8 (p : Int), .int .u8 (n : Int)] 5)).drew rfl (.tmp 67) (.tmp 69) rfl w1.heap.size (B := some ⟨w1.heap.size, 0, none⟩) (n := 3) (cb := 3) (xs := [1, p, n]) (by simp [Act.eval]) Hoo.out (A := A) (m := n) (c := c) (news := xs) (by simp [Act.eval]) Hl.out Hrr.out (by omega) (by simp) ?_; intro A6 c6 w6 hown6 hgrow6 _; have hx6 : Ext w1 w6 := (((Ext.refl w1).alloc _).drew).grown hgrow6 (by simp [Value.ownBlock])))
    all_goals
      go_wp2_with fail
      go_meet
      exact ⟨_, _, rfl, by assumption, (((Ext.refl w1).alloc _).drew).grown (by assumption) (by simp [Value.ownBlock])⟩
  case rest =>
    obtain ⟨A6, c6, rfl, hown6, hy6⟩ := hcut
    have hK6 := Lib.hid (blk_ext hK.out hy6)
    have d0 := blk_cell hK6.out 0; have d3 := blk_cell hK6.out 3
    have Hown6 := Lib.hid hown6; clear hown6 b0 b2 hc0'
    have hl6 : ([1, p, n] ++ xs).length = 3 + n := by rw [List.length_append, Hl.out]; rfl
    have Hl6 := Lib.hid hl6; clear hl6
    have hs6 : w1.heap.size ≤ wc.heap.size := hy6.size
    have hx6 : Ext w wc := (((Ext.refl w).alloc _).trans hx1).trans hy6
    go_wp2_with fail
    refine (wireNum_any wc w1 w1.heap.size A6 (3 + n) c6 _ N Hl6.out Hown6.out hy6 (Nat.le_refl _) hs6 (by omega) (by omega)).mono ?_
    rintro e w7 ⟨A7, c7, rfl, hown7, hy7, hs7⟩
    have hl7 : ([1, p, n] ++ xs ++ wordB N 8).length = 3 + n + 8 := by rw [List.length_append, Hl6.out, wordB_len]
    have Hl7 := Lib.hid hl7; have Hown7 := Lib.hid hown7; clear hl7 hown7
    have hx7 : Ext w w7 := (((Ext.refl w).alloc _).trans hx1).trans hy7
    go_wp2_with fail
    go_ret2
    rw [Hl.out]
    have e : (1 :: p :: n :: (xs ++ wordB N 8)) = [1, p, n] ++ xs ++ wordB N 8 := by simp
    rw [e]
    exact retBE_of Hl7.out (own_base Hown7.out (by omega)) hx7

set_option maxHeartbeats 2000000 in
theorem req2_ok (w : World) (p : Nat) (N : Int) (A : Option Addr) (n c : Nat) (xs : List Nat) (hl : xs.length = n) (hr : Rd w A (vals .u8 xs)) (h4 : p < 32) (hn : n ≤ 255) :
    Calls Try.prog 36 #[callV 2 (p : Int) A n c N] w (RetBE (2 :: p :: xs.length :: xs) 0 w) := by
  have Hl := Lib.hid hl; have Hr := Lib.hid hr; clear hl hr
  go_enter Try.func36, Try.ntmps36
  go_wp2_with fail
  refine (ident_ok p A n c xs _ h4 Hl.out hn (Hr.out.alloc _)).mono ?_
  rintro e w1 ⟨A1, c1, rfl, hown1, hx1⟩
  have hl1 : (p :: xs).length = n + 1 := by rw [List.length_cons, Hl.out]
  rw [hl1] at hown1 ⊢
  clear hl1
  obtain ⟨g, rfl, hg, hg'⟩ := own_block hown1 (by omega)
  have hc0 := hown1.cellAt 0 (by omega)
  have hc0' : w1.cell? ⟨g, 0, none⟩ = some (.int .u8 (p : Int)) := by rw [hc0]; rfl
  have hK : Hid (w1.heap[w.heap.size]? = some (.cells #[.int .u8 2, .int .i64 p, .slice A n c, .int .i64 N] 63 (0, 0))) := blk_ext (blk_new w _) hx1
  have b0 := blk_cell hK.out 0; have b2 := blk_cell hK.out 2
  have hr2 := Lib.hid (Hr.out.ext (((Ext.refl w).alloc _).trans hx1))
  have hs1 : w.heap.size + 1 ≤ w1.heap.size := by have := hx1.size; simpa using this
  clear hc0 hown1
  go_upto_region 19 with fail
  go_cut [8] (fun v wd => ∃ A6 c6, v = .slice A6 (3 + n) c6 ∧ wd.ownsRow w1.heap.size 5 1 (.slice A6 (3 + n) c6) (3 + n) (vals .u8 ([2, p, n] ++ xs)) ∧ Ext w1 wd)
  case first =>
    have hwn : IntKind.u8.wrap (n : Int) = (n : Int) := by rw [IntKind.wrap_u8]; omega
    have hoo : (w1.alloc (.cells #[.int .u8 2, .int .u8 (p : Int), .int .u8 (n : Int)] 5)).drew.ownsRow w1.heap.size 5 1 (.slice (some ⟨w1.heap.size, 0, none⟩) 3 3) 3 (vals .u8 [2, p, n]) := own_made w1 _ 5 1 3 rfl (by unfold maxLen; omega) (Nat.le_refl _)
    have hrr : Rd (w1.alloc (.cells #[.int .u8 2, .int .u8 (p : Int), .int .u8 (n : Int)] 5)).drew A (vals .u8 xs) := (hr2.out.alloc _).drew
    have b2' := cell_past b2
    have Hoo := Lib.hid hoo; have Hrr := Lib.hid hrr; clear hoo hrr
    go_region_held3 (fun w' => w'.cell? ⟨w.heap.size, 0, none⟩ = some (.int .u8 2) ∧ w'.cell? ⟨w.heap.size, 2, none⟩ = some (.slice A n c) ∧ w'.cell? ⟨g, 0, none⟩ = some (.int .u8 (p : Int))) (first | exact ⟨ext_cell hx6 b0, ext_cell hx6 b2, ext_cell hx6 hc0'⟩ | go_keep | (simp; assumption)) ((refine step_app_u8 (w1.alloc (.cells #[.int .u8 2, .int .u8 (p : Int), .int .u8 (n : Int)] 5)).drew rfl (.tmp 67) (.tmp 69) rfl w1.heap.size (B := some ⟨w1.heap.size, 0, none⟩) (n := 3) (cb := 3) (xs := [2, p, n]) (by simp [Act.eval]) Hoo.out (A := A) (m := n) (c := c) (news := xs) (by simp [Act.eval]) Hl.out Hrr.out (by omega) (by simp) ?_; intro A6 c6 w6 hown6 hgrow6 _; have hx6 : Ext w1 w6 := (((Ext.refl w1).alloc _).drew).grown hgrow6 (by simp [Value.ownBlock])))
    all_goals
      go_wp2_with fail
      go_meet
      exact ⟨_, _, rfl, by assumption, (((Ext.refl w1).alloc _).drew).grown (by assumption) (by simp [Value.ownBlock])⟩
  case rest =>
    obtain ⟨A6, c6, rfl, hown6, hy6⟩ := hcut
    have hK6 := Lib.hid (blk_ext hK.out hy6)
    have d0 := blk_cell hK6.out 0; have d3 := blk_cell hK6.out 3
    have Hown6 := Lib.hid hown6; clear hown6 b0 b2 hc0'
    have hl6 : ([2, p, n] ++ xs).length = 3 + n := by rw [List.length_append, Hl.out]; rfl
    have Hl6 := Lib.hid hl6; clear hl6
    have hs6 : w1.heap.size ≤ wc.heap.size := hy6.size
    have hx6 : Ext w wc := (((Ext.refl w).alloc _).trans hx1).trans hy6
    go_wp2_with fail
    go_ret2
    rw [Hl.out]
    exact retBE_of Hl6.out (own_base Hown6.out (by omega)) hx6

set_option maxHeartbeats 2000000 in
theorem req4_ok (w : World) (p : Nat) (N : Int) (A : Option Addr) (n c : Nat) (xs : List Nat) (hl : xs.length = n) (hr : Rd w A (vals .u8 xs)) (h4 : p < 32) (hn : n ≤ 255) :
    Calls Try.prog 36 #[callV 4 (p : Int) A n c N] w (RetBE (4 :: p :: xs.length :: xs) 0 w) := by
  have Hl := Lib.hid hl; have Hr := Lib.hid hr; clear hl hr
  go_enter Try.func36, Try.ntmps36
  go_wp2_with fail
  refine (ident_ok p A n c xs _ h4 Hl.out hn (Hr.out.alloc _)).mono ?_
  rintro e w1 ⟨A1, c1, rfl, hown1, hx1⟩
  have hl1 : (p :: xs).length = n + 1 := by rw [List.length_cons, Hl.out]
  rw [hl1] at hown1 ⊢
  clear hl1
  obtain ⟨g, rfl, hg, hg'⟩ := own_block hown1 (by omega)
  have hc0 := hown1.cellAt 0 (by omega)
  have hc0' : w1.cell? ⟨g, 0, none⟩ = some (.int .u8 (p : Int)) := by rw [hc0]; rfl
  have hK : Hid (w1.heap[w.heap.size]? = some (.cells #[.int .u8 4, .int .i64 p, .slice A n c, .int .i64 N] 63 (0, 0))) := blk_ext (blk_new w _) hx1
  have b0 := blk_cell hK.out 0; have b2 := blk_cell hK.out 2
  have hr2 := Lib.hid (Hr.out.ext (((Ext.refl w).alloc _).trans hx1))
  have hs1 : w.heap.size + 1 ≤ w1.heap.size := by have := hx1.size; simpa using this
  clear hc0 hown1
  go_upto_region 19 with fail
  go_cut [8] (fun v wd => ∃ A6 c6, v = .slice A6 (3 + n) c6 ∧ wd.ownsRow w1.heap.size 5 1 (.slice A6 (3 + n) c6) (3 + n) (vals .u8 ([4, p, n] ++ xs)) ∧ Ext w1 wd)
  case first =>
    have hwn : IntKind.u8.wrap (n : Int) = (n : Int) := by rw [IntKind.wrap_u8]; omega
    have hoo : (w1.alloc (.cells #[.int .u8 4, .int .u8 (p : Int), .int .u8 (n : Int)] 5)).drew.ownsRow w1.heap.size 5 1 (.slice (some ⟨w1.heap.size, 0, none⟩) 3 3) 3 (vals .u8 [4, p, n]) := own_made w1 _ 5 1 3 rfl (by unfold maxLen; omega) (Nat.le_refl _)
    have hrr : Rd (w1.alloc (.cells #[.int .u8 4, .int .u8 (p : Int), .int .u8 (n : Int)] 5)).drew A (vals .u8 xs) := (hr2.out.alloc _).drew
    have b2' := cell_past b2
    have Hoo := Lib.hid hoo; have Hrr := Lib.hid hrr; clear hoo hrr
    go_region_held3 (fun w' => w'.cell? ⟨w.heap.size, 0, none⟩ = some (.int .u8 4) ∧ w'.cell? ⟨w.heap.size, 2, none⟩ = some (.slice A n c) ∧ w'.cell? ⟨g, 0, none⟩ = some (.int .u8 (p : Int))) (first | exact ⟨ext_cell hx6 b0, ext_cell hx6 b2, ext_cell hx6 hc0'⟩ | go_keep | (simp; assumption)) ((refine step_app_u8 (w1.alloc (.cells #[.int .u8 4, .int .u8 (p : Int), .int .u8 (n : Int)] 5)).drew rfl (.tmp 67) (.tmp 69) rfl w1.heap.size (B := some ⟨w1.heap.size, 0, none⟩) (n := 3) (cb := 3) (xs := [4, p, n]) (by simp [Act.eval]) Hoo.out (A := A) (m := n) (c := c) (news := xs) (by simp [Act.eval]) Hl.out Hrr.out (by omega) (by simp) ?_; intro A6 c6 w6 hown6 hgrow6 _; have hx6 : Ext w1 w6 := (((Ext.refl w1).alloc _).drew).grown hgrow6 (by simp [Value.ownBlock])))
    all_goals
      go_wp2_with fail
      go_meet
      exact ⟨_, _, rfl, by assumption, (((Ext.refl w1).alloc _).drew).grown (by assumption) (by simp [Value.ownBlock])⟩
  case rest =>
    obtain ⟨A6, c6, rfl, hown6, hy6⟩ := hcut
    have hK6 := Lib.hid (blk_ext hK.out hy6)
    have d0 := blk_cell hK6.out 0; have d3 := blk_cell hK6.out 3
    have Hown6 := Lib.hid hown6; clear hown6 b0 b2 hc0'
    have hl6 : ([4, p, n] ++ xs).length = 3 + n := by rw [List.length_append, Hl.out]; rfl
    have Hl6 := Lib.hid hl6; clear hl6
    have hs6 : w1.heap.size ≤ wc.heap.size := hy6.size
    have hx6 : Ext w wc := (((Ext.refl w).alloc _).trans hx1).trans hy6
    go_wp2_with fail
    go_ret2
    rw [Hl.out]
    exact retBE_of Hl6.out (own_base Hown6.out (by omega)) hx6
end

section
open Go.RowKit

theorem refForm_ok (N : Int) (w : World) (h : 0 ≤ N) (h' : N ≤ 4611686018427387903) : Calls Try.prog 74 #[.int .i64 N] w fun e w' => e = .returned (.bool true) ∧ w = w' := by
  go_enter Try.func74, Try.ntmps74
  go_wp2_with fail
  go_ret
  exact ⟨rfl, rfl⟩
theorem refForm_bad (N : Int) (w : World) (h : N < 0 ∨ 4611686018427387903 < N) : Calls Try.prog 74 #[.int .i64 N] w fun e w' => e = .returned (.bool false) ∧ w = w' := by
  rcases h with h | h
  · go_enter Try.func74, Try.ntmps74
    go_wp2_with fail
    go_ret
    exact ⟨rfl, rfl⟩
  · have h' : 0 ≤ N := by omega
    go_enter Try.func74, Try.ntmps74
    go_wp2_with fail
    go_ret
    exact ⟨ret_bool (by simp; omega), rfl⟩

theorem own_in {w : World} {B : Nat} {e : TypeId} {size : Nat} {v : Value} {n : Nat} {xs : List Value} (h : w.ownsRow B e size v n xs) (o : Obj) : (w.alloc o).ownsRow B e size v n xs := own_ext h ((Ext.refl w).alloc o)
theorem own_b1' (w : World) (o : Obj) (y : Nat) : ((w.alloc o).alloc (.cells #[.int .u8 (y : Int)] 5)).ownsRow w.heap.size 5 1 (.slice (some ⟨w.heap.size + 1, 0, none⟩) 1 1) 1 (vals .u8 [y]) := by
  have h := own1 (w.alloc o) y
  rw [World.size_alloc] at h
  exact own_base h (by omega)

theorem own_b1s (w : World) (o : Obj) (y : Nat) : ((w.alloc o).alloc (.cells #[.int .u8 (y : Int)] 5)).ownsRow (w.heap.size + 1) 5 1 (.slice (some ⟨w.heap.size + 1, 0, none⟩) 1 1) 1 (vals .u8 [y]) := by
  have h := own1 (w.alloc o) y
  rwa [World.size_alloc] at h

theorem refReq56 (w : World) (o : Nat) (ho : o = 5 ∨ o = 6) (p N : Int) (A : Option Addr) (n c : Nat) :
    Calls Try.prog 75 #[callV (o : Int) p A n c N] w (RetB [o] w) := by
  have q3 : ((o : Int) == 3) = false := by rw [beq_eq_false_iff_ne]; omega
  have hh : ((o : Int) == 5) = true ∨ (((o : Int) == 5) = false ∧ ((o : Int) == 6) = true) := by
    rcases ho with h | h
    · left; rw [beq_iff_eq]; omega
    · right; exact ⟨by rw [beq_eq_false_iff_ne]; omega, by rw [beq_iff_eq]; omega⟩
  have Ho := Lib.hid ho; clear ho
  rcases hh with h5 | ⟨h5, h6⟩
  · go_enter Try.func75, Try.ntmps75
    go_wp2_with fail
    go_ret
    exact retB_of rfl (own_b1' w _ o) (((Ext.refl w).alloc _).alloc _)
  · go_enter Try.func75, Try.ntmps75
    go_wp2_with fail
    go_ret
    exact retB_of rfl (own_b1' w _ o) (((Ext.refl w).alloc _).alloc _)
set_option maxHeartbeats 1000000 in
theorem refReq3 (w : World) (p N : Nat) (A : Option Addr) (n c : Nat) (xs : List Nat) (hl : xs.length = n) (hb : ∀ x ∈ xs, x < 256) (hr : Rd w A (vals .u8 xs)) (h1 : 1 ≤ N) (h2 : N ≤ 4611686018427387903) (h4 : p < 32) (hn : n ≤ 255) :
    Calls Try.prog 75 #[callV 3 (p : Int) A n c (N : Int)] w (RetB (3 :: tokB p xs N) w) := by
  have C := Lib.hid (fun w1 hr' => refTok_any w1 p N A n c xs hl hb hr' h1 h2 h4 hn)
  have hL : (tokB p xs N).length = n + 16 := by rw [tokB_len, hl]
  have HL := Lib.hid hL; have Hr := Lib.hid hr; clear hl hr hb hL
  have H0 := Lib.hid (own_b1' w (.cells #[.int .u8 3, .int .i64 p, .slice A n c, .int .i64 N] 63) 3)
  go_enter Try.func75, Try.ntmps75
  go_wp2_with fail
  refine (C.out _ ((Hr.out.alloc _).alloc _)).mono ?_
  rintro e w1 ⟨A1, c1, rfl, hown, hy⟩
  rw [HL.out] at hown ⊢
  have hx : Ext w w1 := (((Ext.refl w).alloc _).alloc _).trans hy
  have R1 := Lib.hid (Rd.of_own hown)
  have h0 := own_ext H0.out hy
  have hs : w.heap.size ≤ w1.heap.size := hx.size
  clear hown
  go_wp2_with (first | (at_builtin; refine app_u8 _ rfl (.tmp 11) (.tmp 19) rfl w.heap.size rfl h0 rfl HL.out R1.out (by omega) (by omega) ?_; intro A2 c2 w2 hown2 hgrow2 _) | fail)
  go_ret
  refine retB_of ?_ hown2 (hx.grown hgrow2 (own_ge h0))
  show (3 :: tokB p xs N).length = _
  rw [List.length_cons, HL.out]; omega
set_option maxHeartbeats 1000000 in
theorem refReq24 (w : World) (o p : Nat) (ho : o = 2 ∨ o = 4) (N : Int) (A : Option Addr) (n c : Nat) (xs : List Nat) (hl : xs.length = n) (hr : Rd w A (vals .u8 xs)) (h4 : p < 32) (hn : n ≤ 255) :
    Calls Try.prog 75 #[callV (o : Int) (p : Int) A n c N] w (RetB (o :: p :: xs.length :: xs) w) := by
  have q1 : ((o : Int) == 1) = false := by rw [beq_eq_false_iff_ne]; omega
  have q3 : ((o : Int) == 3) = false := by rw [beq_eq_false_iff_ne]; omega
  have q5 : ((o : Int) == 5) = false := by rw [beq_eq_false_iff_ne]; omega
  have q6 : ((o : Int) == 6) = false := by rw [beq_eq_false_iff_ne]; omega
  have Ho := Lib.hid ho; clear ho
  have H0 := Lib.hid (own_b1s w (.cells #[.int .u8 (o : Int), .int .i64 p, .slice A n c, .int .i64 N] 63) o)
  have Hl := Lib.hid hl; have Hr := Lib.hid hr; clear hl hr
  have hwn : IntKind.u8.wrap (n : Int) = (n : Int) := by rw [IntKind.wrap_u8]; omega
  have hwp : IntKind.u8.wrap (p : Int) = (p : Int) := by rw [IntKind.wrap_u8]; omega
  go_enter Try.func75, Try.ntmps75
  go_wp2_with (first
    | (at_builtin; refine app_u8 _ rfl (.tmp 25) (.tmp 33) rfl (w.heap.size + 1) rfl (own_in H0.out _) rfl (m := 2) (news := [p, n]) rfl (rd_newk _ _ _ (by simp)) (by omega) (by simp <;> omega) ?_; intro A1 c1 w1 hown1 hgrow1 _; have hx1 : Ext w w1 := ((((Ext.refl w).alloc _).alloc _).alloc _).grown hgrow1 (fun k hk => by have := own_ge H0.out k hk; omega); have k1 := Lib.hid (hgrow1.block w.heap.size (by simp <;> omega) (fun e => by have := own_ge H0.out _ e.symm; omega)); have kk : Hid (w1.heap[w.heap.size]? = some (.cells #[.int .u8 (o : Int), .int .i64 p, .slice A n c, .int .i64 N] 63 (0, 0))) := k1.out.trans (blk_past (blk_past (blk_new w _) _) _); have g0 := blk_cell kk.out 0; have g2 := blk_cell kk.out 2)
    | (at_builtin; refine app_u8 _ rfl (.tmp 35) (.tmp 37) rfl (w.heap.size + 1) rfl hown1 rfl Hl.out (Hr.out.ext hx1) (by omega) (blk_lt kk.out) ?_; intro A2 c2 w2 hown2 hgrow2 _; have hx2 : Ext w w2 := hx1.grown hgrow2 (fun k hk => by have := own_ge hown1 k hk; omega); have k2 := Lib.hid (hgrow2.block w.heap.size (blk_lt kk.out) (fun e => by have := own_ge hown1 _ e.symm; omega)); have kk2 : Hid (w2.heap[w.heap.size]? = some (.cells #[.int .u8 (o : Int), .int .i64 p, .slice A n c, .int .i64 N] 63 (0, 0))) := k2.out.trans kk.out; have j0 := blk_cell kk2.out 0)
    | fail)
  go_ret
  have hx : Ext w w2 := hx2
  refine retB_of (n := 1 + 2 + n) ?_ ?_ hx2
  · simp only [List.length_cons, Hl.out]; omega
  · rw [Hl.out]; exact own_base hown2 (by omega)
set_option maxHeartbeats 1000000 in
theorem refReq1 (w : World) (p N : Nat) (A : Option Addr) (n c : Nat) (xs : List Nat) (hl : xs.length = n) (hr : Rd w A (vals .u8 xs)) (h4 : p < 32) (hn : n ≤ 255) (hN : N ≤ 4611686018427387903) :
    Calls Try.prog 75 #[callV 1 (p : Int) A n c (N : Int)] w (RetB (1 :: p :: xs.length :: (xs ++ wordB N 8)) w) := by
  have H0 := Lib.hid (own_b1s w (.cells #[.int .u8 1, .int .i64 p, .slice A n c, .int .i64 N] 63) 1)
  have Hl := Lib.hid hl; have Hr := Lib.hid hr; clear hl hr
  have hwn : IntKind.u8.wrap (n : Int) = (n : Int) := by rw [IntKind.wrap_u8]; omega
  have hwp : IntKind.u8.wrap (p : Int) = (p : Int) := by rw [IntKind.wrap_u8]; omega
  go_enter Try.func75, Try.ntmps75
  go_wp2_with (first
    | (at_builtin; refine app_u8 _ rfl (.tmp 25) (.tmp 33) rfl (w.heap.size + 1) rfl (own_in H0.out _) rfl (m := 2) (news := [p, n]) rfl (rd_newk _ _ _ (by simp)) (by omega) (by simp <;> omega) ?_; intro A1 c1 w1 hown1 hgrow1 _; have hx1 : Ext w w1 := ((((Ext.refl w).alloc _).alloc _).alloc _).grown hgrow1 (fun k hk => by have := own_ge H0.out k hk; omega); have k1 := Lib.hid (hgrow1.block w.heap.size (by simp <;> omega) (fun e => by have := own_ge H0.out _ e.symm; omega)); have kk : Hid (w1.heap[w.heap.size]? = some (.cells #[.int .u8 1, .int .i64 p, .slice A n c, .int .i64 N] 63 (0, 0))) := k1.out.trans (blk_past (blk_past (blk_new w _) _) _); have g0 := blk_cell kk.out 0; have g2 := blk_cell kk.out 2)
    | (at_builtin; refine app_u8 _ rfl (.tmp 35) (.tmp 37) rfl (w.heap.size + 1) rfl hown1 rfl Hl.out (Hr.out.ext hx1) (by omega) (blk_lt kk.out) ?_; intro A2 c2 w2 hown2 hgrow2 _; have hx2 : Ext w w2 := hx1.grown hgrow2 (fun k hk => by have := own_ge hown1 k hk; omega); have k2 := Lib.hid (hgrow2.block w.heap.size (blk_lt kk.out) (fun e => by have := own_ge hown1 _ e.symm; omega)); have kk2 : Hid (w2.heap[w.heap.size]? = some (.cells #[.int .u8 1, .int .i64 p, .slice A n c, .int .i64 N] 63 (0, 0))) := k2.out.trans kk.out; have j0 := blk_cell kk2.out 0; have j3 := blk_cell kk2.out 3)
    | fail)
  have hs2 : w.heap.size < w2.heap.size := blk_lt kk2.out
  have Hown2 := Lib.hid hown2; have Hx2 := Lib.hid hx2
  clear hown1 hgrow1 hx1 k1 g0 g2 hgrow2 k2 hown2 hx2
  refine (docWord_any w2 N 8 (by omega) (by omega)).mono ?_
  rintro e w3 ⟨A3, c3, rfl, hown3, hy3⟩
  rw [wordB_len] at hown3 ⊢
  have R3 := Lib.hid (Rd.of_own hown3)
  have h2 := own_ext Hown2.out hy3
  have hs3 : w2.heap.size ≤ w3.heap.size := hy3.size
  clear hown3
  go_wp2_with (first | (at_builtin; refine app_u8 _ rfl (.tmp 42) (.tmp 46) rfl (w.heap.size + 1) rfl h2 rfl (wordB_len N 8) R3.out (by omega) (by omega) ?_; intro A4 c4 w4 hown4 hgrow4 _) | fail)
  go_ret
  have e : 1 :: p :: n :: (xs ++ wordB N 8) = [1] ++ [p, n] ++ xs ++ wordB N 8 := by simp
  rw [Hl.out, e]
  refine retB_of ?_ (own_base hown4 (by omega)) ((Hx2.out.trans hy3).grown hgrow4 (fun k hk => by have := own_ge h2 k hk; omega))
  simp only [List.length_append, List.length_cons, List.length_nil, Hl.out, wordB_len]
end

section
open Go.RowKit

theorem docReq_op (w : World) (op p N : Int) (A : Option Addr) (n c : Nat) (h : op < 1 ∨ 6 < op) :
    Calls Try.prog 37 #[callV op p A n c N] w (RetBE [] 1 w) := by
  rcases h with h | h
  · go_enter Try.func37, Try.ntmps37
    go_wp2_with fail
    go_ret2
    exact retBE_none ⟨rfl, (Ext.refl w).alloc _⟩
  · have h' : ¬ op < 1 := by omega
    go_enter Try.func37, Try.ntmps37
    go_wp2_with fail
    go_ret2
    exact retBE_none ⟨rfl, (Ext.refl w).alloc _⟩
theorem docReq_p (w : World) (op p N : Int) (A : Option Addr) (n c : Nat) (h1 : 1 ≤ op) (h5 : op < 5) (h : p < 0 ∨ 32 ≤ p) :
    Calls Try.prog 37 #[callV op p A n c N] w (RetBE [] 1 w) := by
  have h6 : op ≤ 6 := by omega
  rcases h with h | h
  · go_enter Try.func37, Try.ntmps37
    go_wp2_with fail
    go_ret2
    exact retBE_none ⟨rfl, (Ext.refl w).alloc _⟩
  · have h' : ¬ p < 0 := by omega
    go_enter Try.func37, Try.ntmps37
    go_wp2_with fail
    go_ret2
    exact retBE_none ⟨rfl, (Ext.refl w).alloc _⟩
theorem docReq_N1 (w : World) (p N : Int) (A : Option Addr) (n c : Nat) (hp : 0 ≤ p) (hp' : p < 32) (h : N < 0 ∨ 4611686018427387903 < N) :
    Calls Try.prog 37 #[callV 1 p A n c N] w (RetBE [] 1 w) := by
  go_enter Try.func37, Try.ntmps37
  go_wp2_with fail
  refine (refForm_bad N _ h).mono ?_
  rintro e w1 ⟨rfl, rfl⟩
  go_wp2_with fail
  go_ret2
  exact retBE_none ⟨rfl, (Ext.refl w).alloc _⟩
theorem docReq_N3 (w : World) (p N : Int) (A : Option Addr) (n c : Nat) (hp : 0 ≤ p) (hp' : p < 32) (h : N < 1 ∨ 4611686018427387903 < N) :
    Calls Try.prog 37 #[callV 3 p A n c N] w (RetBE [] 1 w) := by
  rcases h with h | h
  · go_enter Try.func37, Try.ntmps37
    go_wp2_with fail
    go_ret2
    exact retBE_none ⟨rfl, (Ext.refl w).alloc _⟩
  · have h' : ¬ N < 1 := by omega
    go_enter Try.func37, Try.ntmps37
    go_wp2_with fail
    go_ret2
    exact retBE_none ⟨rfl, (Ext.refl w).alloc _⟩
theorem docReq_long1 (w : World) (p N : Int) (A : Option Addr) (n c : Nat) (hp : 0 ≤ p) (hp' : p < 32) (h1 : 0 ≤ N) (h2 : N ≤ 4611686018427387903) (hn : 255 < n) :
    Calls Try.prog 37 #[callV 1 p A n c N] w (RetBE [] 2 w) := by
  go_enter Try.func37, Try.ntmps37
  go_wp2_with fail
  refine (refForm_ok N _ h1 h2).mono ?_
  rintro e w1 ⟨rfl, rfl⟩
  go_wp2_with fail
  go_ret2
  exact retBE_none ⟨rfl, (Ext.refl w).alloc _⟩
theorem docReq_long3 (w : World) (p N : Int) (A : Option Addr) (n c : Nat) (hp : 0 ≤ p) (hp' : p < 32) (h1 : 1 ≤ N) (h2 : N ≤ 4611686018427387903) (hn : 255 < n) :
    Calls Try.prog 37 #[callV 3 p A n c N] w (RetBE [] 2 w) := by
  go_enter Try.func37, Try.ntmps37
  go_wp2_with fail
  go_ret2
  exact retBE_none ⟨rfl, (Ext.refl w).alloc _⟩
theorem docReq_long24 (w : World) (op p N : Int) (A : Option Addr) (n c : Nat) (h : op = 2 ∨ op = 4) (hp : 0 ≤ p) (hp' : p < 32) (hn : 255 < n) :
    Calls Try.prog 37 #[callV op p A n c N] w (RetBE [] 2 w) := by
  have q1 : (op == 1) = false := by rw [beq_eq_false_iff_ne]; omega
  have q3 : (op == 3) = false := by rw [beq_eq_false_iff_ne]; omega
  have h1 : 1 ≤ op := by omega
  have h2 : op < 5 := by omega
  have h3 : op ≤ 6 := by omega
  clear h
  go_enter Try.func37, Try.ntmps37
  go_wp2_with fail
  go_ret2
  exact retBE_none ⟨rfl, (Ext.refl w).alloc _⟩
theorem retBE_in {L : List Nat} {q : Int} {w w1 w2 : World} {A : Option Addr} {c k : Nat} (hx : Ext w w1) (hk : L.length = k) (ho : w2.ownsRow w1.heap.size 5 1 (.slice A k c) k (vals .u8 L)) (hy : Ext w1 w2) :
    RetBE L q w (.returned (.tuple #[.slice A k c, .int .i64 q])) w2 := retBE_of hk (own_base ho hx.size) (hx.trans hy)
theorem docReq_ok1 (w : World) (p N : Int) (A : Option Addr) (n c : Nat) (xs L : List Nat) (k : Nat) (hk : L.length = k) (hr : Rd w A (vals .u8 xs)) (hp : 0 ≤ p) (hp' : p < 32) (h1 : 0 ≤ N) (h2 : N ≤ 4611686018427387903) (hn : n ≤ 255)
    (hC : ∀ w, Rd w A (vals .u8 xs) → Calls Try.prog 75 #[callV 1 p A n c N] w (RetB L w)) :
    Calls Try.prog 37 #[callV 1 p A n c N] w (RetBE L 0 w) := by
  have HC := Lib.hid hC; have Hr := Lib.hid hr; have Hk := Lib.hid hk; clear hC hr hk
  go_enter Try.func37, Try.ntmps37
  go_wp2_with fail
  refine (refForm_ok N _ h1 h2).mono ?_
  rintro e w1 ⟨rfl, rfl⟩
  go_wp2_with fail
  refine (HC.out _ (Hr.out.alloc _)).mono ?_
  rintro e w1 ⟨A1, c1, rfl, hown, hy⟩
  rw [Hk.out] at hown ⊢
  have Hown := Lib.hid hown; clear hown
  go_wp2_with fail
  go_ret2
  exact retBE_in ((Ext.refl w).alloc _) Hk.out Hown.out hy
theorem docReq_ok3 (w : World) (p N : Int) (A : Option Addr) (n c : Nat) (xs L : List Nat) (k : Nat) (hk : L.length = k) (hr : Rd w A (vals .u8 xs)) (hp : 0 ≤ p) (hp' : p < 32) (h1 : 1 ≤ N) (h2 : N ≤ 4611686018427387903) (hn : n ≤ 255)
    (hC : ∀ w, Rd w A (vals .u8 xs) → Calls Try.prog 75 #[callV 3 p A n c N] w (RetB L w)) :
    Calls Try.prog 37 #[callV 3 p A n c N] w (RetBE L 0 w) := by
  have HC := Lib.hid hC; have Hr := Lib.hid hr; have Hk := Lib.hid hk; clear hC hr hk
  go_enter Try.func37, Try.ntmps37
  go_wp2_with fail
  refine (HC.out _ (Hr.out.alloc _)).mono ?_
  rintro e w1 ⟨A1, c1, rfl, hown, hy⟩
  rw [Hk.out] at hown ⊢
  have Hown := Lib.hid hown; clear hown
  go_wp2_with fail
  go_ret2
  exact retBE_in ((Ext.refl w).alloc _) Hk.out Hown.out hy
theorem docReq_ok24 (w : World) (op p N : Int) (A : Option Addr) (n c : Nat) (xs L : List Nat) (k : Nat) (hk : L.length = k) (hr : Rd w A (vals .u8 xs)) (h : op = 2 ∨ op = 4) (hp : 0 ≤ p) (hp' : p < 32) (hn : n ≤ 255)
    (hC : ∀ w, Rd w A (vals .u8 xs) → Calls Try.prog 75 #[callV op p A n c N] w (RetB L w)) :
    Calls Try.prog 37 #[callV op p A n c N] w (RetBE L 0 w) := by
  have HC := Lib.hid hC; have Hr := Lib.hid hr; have Hk := Lib.hid hk; clear hC hr hk
  have q1 : (op == 1) = false := by rw [beq_eq_false_iff_ne]; omega
  have q3 : (op == 3) = false := by rw [beq_eq_false_iff_ne]; omega
  have h1 : 1 ≤ op := by omega
  have h2 : op < 5 := by omega
  have h3 : op ≤ 6 := by omega
  clear h
  go_enter Try.func37, Try.ntmps37
  go_wp2_with fail
  refine (HC.out _ (Hr.out.alloc _)).mono ?_
  rintro e w1 ⟨A1, c1, rfl, hown, hy⟩
  rw [Hk.out] at hown ⊢
  have Hown := Lib.hid hown; clear hown
  go_wp2_with fail
  go_ret2
  exact retBE_in ((Ext.refl w).alloc _) Hk.out Hown.out hy
theorem docReq_ok56 (w : World) (op p N : Int) (A : Option Addr) (n c : Nat) (L : List Nat) (k : Nat) (hk : L.length = k) (h : op = 5 ∨ op = 6)
    (hC : ∀ w, Calls Try.prog 75 #[callV op p A n c N] w (RetB L w)) :
    Calls Try.prog 37 #[callV op p A n c N] w (RetBE L 0 w) := by
  have HC := Lib.hid hC; have Hk := Lib.hid hk; clear hC hk
  have q1 : (op == 1) = false := by rw [beq_eq_false_iff_ne]; omega
  have q3 : (op == 3) = false := by rw [beq_eq_false_iff_ne]; omega
  have h1 : 1 ≤ op := by omega
  have h2 : 5 ≤ op := by omega
  have h3 : op ≤ 6 := by omega
  clear h
  go_enter Try.func37, Try.ntmps37
  go_wp2_with fail
  refine (HC.out _).mono ?_
  rintro e w1 ⟨A1, c1, rfl, hown, hy⟩
  rw [Hk.out] at hown ⊢
  have Hown := Lib.hid hown; clear hown
  go_wp2_with fail
  go_ret2
  exact retBE_in ((Ext.refl w).alloc _) Hk.out Hown.out hy

/-- Request and DocRequest answer alike -/
theorem req_cases (op : Nat) (_hop : op < 256) (p N : Int) (n : Nat) (xs : List Nat) (hl : xs.length = n) (hb : ∀ x ∈ xs, x < 256) :
    ∃ (q : Int) (L : List Nat), ReqIs op p xs N q L ∧ (∀ A c w, Rd w A (vals .u8 xs) → Calls Try.prog 36 #[callV (op : Int) p A n c N] w (RetBE L q w)) ∧
      (∀ A c w, Rd w A (vals .u8 xs) → Calls Try.prog 37 #[callV (op : Int) p A n c N] w (RetBE L q w)) := by
  by_cases h0 : op < 1 ∨ 6 < op
  · exact ⟨1, [], (.inl ⟨rfl, rfl, not_right (by omega)⟩), fun A c w _ => req_bad w _ p N A n c (by omega) (by omega), fun A c w _ => docReq_op w _ p N A n c (by omega)⟩
  by_cases h56 : op = 5 ∨ op = 6
  · have hR : RightC op 0 xs 0 := ⟨by omega, by omega, fun h => by omega, fun h => by omega, fun h => by omega⟩
    have hB : reqB op 0 xs 0 = [op] := by unfold reqB; rw [if_neg (by omega), if_pos h56]
    refine ⟨0, [op], .inr ⟨rfl, 0, 0, fun h => by omega, fun h => by omega, hR, hB.symm⟩, fun A c w _ => ?_, fun A c w _ => docReq_ok56 w _ p N A n c [op] 1 rfl (by omega) (fun w => refReq56 w op h56 p N A n c)⟩
    rcases h56 with rfl | rfl
    · exact req5_ok w p N A n c
    · exact req6_ok w p N A n c
  by_cases h3 : op = 3
  · subst h3
    by_cases h1 : N < 1 ∨ 4611686018427387903 < N ∨ p < 0 ∨ 32 ≤ p
    · refine ⟨1, [], (.inl ⟨rfl, rfl, not_right (by omega)⟩), fun A c w hr => req3_err w p N A n c xs 1 rfl hr (fun w' _ => (tokEncode_arg w' p N A n c h1).mono fun _ _ h => retBE_none h), fun A c w hr => ?_⟩
      by_cases hp : p < 0 ∨ 32 ≤ p
      · exact docReq_p w 3 p N A n c (by omega) (by omega) hp
      · exact docReq_N3 w p N A n c (by omega) (by omega) (by omega)
    · by_cases h2 : 255 < n
      · exact ⟨2, [], (.inl ⟨rfl, rfl, not_right (by omega)⟩), fun A c w hr => req3_err w p N A n c xs 2 rfl hr (fun w' _ => (tokEncode_long w' p N A n c (by omega) (by omega) (by omega) (by omega) h2).mono fun _ _ h => retBE_none h), fun A c w hr => docReq_long3 w p N A n c (by omega) (by omega) (by omega) (by omega) h2⟩
      · have hlen : (tokB p.toNat xs N.toNat).length = n + 16 := by rw [tokB_len, hl]
        have hR : RightC 3 p.toNat xs N.toNat := ⟨by omega, by omega, fun _ => ⟨by omega, by omega⟩, fun h => by omega, fun _ => ⟨by omega, by omega⟩⟩
        refine ⟨0, 3 :: tokB p.toNat xs N.toNat, .inr ⟨rfl, p.toNat, N.toNat, fun _ => by omega, fun _ => by omega, hR, rfl⟩, fun A c w hr => req3_ok w p N A n c xs _ _ hlen (by omega) hr (fun w' hr' => ?_), fun A c w hr => docReq_ok3 w p N A n c xs _ _ (by rw [List.length_cons, hlen]) hr (by omega) (by omega) (by omega) (by omega) (by omega) (fun w' hr' => ?_)⟩
        · have := tokEncode_ok w' p.toNat N.toNat A n c xs hl hb hr' (by omega) (by omega) (by omega) (by omega)
          rwa [show ((p.toNat : Nat) : Int) = p by omega, show ((N.toNat : Nat) : Int) = N by omega] at this
        · have := refReq3 w' p.toNat N.toNat A n c xs hl hb hr' (by omega) (by omega) (by omega) (by omega)
          rwa [show ((p.toNat : Nat) : Int) = p by omega, show ((N.toNat : Nat) : Int) = N by omega] at this
  by_cases h1 : op = 1
  · subst h1
    by_cases hN : N < 0 ∨ 4611686018427387903 < N
    · refine ⟨1, [], (.inl ⟨rfl, rfl, not_right (by omega)⟩), fun A c w _ => req1_num w p N A n c hN, fun A c w _ => ?_⟩
      by_cases hp : p < 0 ∨ 32 ≤ p
      · exact docReq_p w 1 p N A n c (by omega) (by omega) hp
      · exact docReq_N1 w p N A n c (by omega) (by omega) hN
    · by_cases hp : p < 0 ∨ 32 ≤ p
      · exact ⟨1, [], (.inl ⟨rfl, rfl, not_right (by omega)⟩), fun A c w _ => req1_err w p N A n c 1 rfl (by omega) (by omega) (fun w => ident_arg p A n c w hp), fun A c w _ => docReq_p w 1 p N A n c (by omega) (by omega) hp⟩
      · by_cases h2 : 255 < n
        · exact ⟨2, [], (.inl ⟨rfl, rfl, not_right (by omega)⟩), fun A c w _ => req1_err w p N A n c 2 rfl (by omega) (by omega) (fun w => ident_long p A n c w (by omega) (by omega) h2), fun A c w _ => docReq_long1 w p N A n c (by omega) (by omega) (by omega) (by omega) h2⟩
        · obtain ⟨P, rfl⟩ : ∃ P : Nat, p = (P : Int) := ⟨p.toNat, by omega⟩
          obtain ⟨M, rfl⟩ : ∃ M : Nat, N = (M : Int) := ⟨N.toNat, by omega⟩
          have hR : RightC 1 P xs M := ⟨by omega, by omega, fun _ => ⟨by omega, by omega⟩, fun _ => by omega, fun h => by omega⟩
          refine ⟨0, reqB 1 P xs M, .inr ⟨rfl, P, M, fun _ => rfl, fun _ => rfl, hR, rfl⟩, fun A c w hr => req1_ok w P M A n c xs hl hr (by omega) (by omega) (by omega), fun A c w hr => docReq_ok1 w _ _ A n c xs _ _ rfl hr (by omega) (by omega) (by omega) (by omega) (by omega) (fun w' hr' => refReq1 w' P M A n c xs hl hr' (by omega) (by omega) (by omega))⟩
  · have h24 : op = 2 ∨ op = 4 := by omega
    by_cases hp : p < 0 ∨ 32 ≤ p
    · refine ⟨1, [], (.inl ⟨rfl, rfl, not_right (by omega)⟩), fun A c w _ => ?_, fun A c w _ => docReq_p w _ p N A n c (by omega) (by omega) hp⟩
      rcases h24 with rfl | rfl
      · exact req2_err w p N A n c 1 rfl (fun w => ident_arg p A n c w hp)
      · exact req4_err w p N A n c 1 rfl (fun w => ident_arg p A n c w hp)
    · by_cases h2 : 255 < n
      · refine ⟨2, [], (.inl ⟨rfl, rfl, not_right (by omega)⟩), fun A c w _ => ?_, fun A c w _ => docReq_long24 w _ p N A n c (by omega) (by omega) (by omega) h2⟩
        rcases h24 with rfl | rfl
        · exact req2_err w p N A n c 2 rfl (fun w => ident_long p A n c w (by omega) (by omega) h2)
        · exact req4_err w p N A n c 2 rfl (fun w => ident_long p A n c w (by omega) (by omega) h2)
      · obtain ⟨P, rfl⟩ : ∃ P : Nat, p = (P : Int) := ⟨p.toNat, by omega⟩
        have hR : RightC op P xs 0 := ⟨by omega, by omega, fun _ => ⟨by omega, by omega⟩, fun h => by omega, fun h => by omega⟩
        have hB : reqB op P xs 0 = op :: P :: xs.length :: xs := by unfold reqB; rw [if_neg (by omega), if_neg (by omega), if_neg (by omega), List.append_nil]
        refine ⟨0, reqB op P xs 0, .inr ⟨rfl, P, 0, fun _ => rfl, fun h => by omega, hR, rfl⟩, fun A c w hr => ?_, fun A c w hr => ?_⟩
        · rw [hB]
          rcases h24 with rfl | rfl
          · exact req2_ok w P N A n c xs hl hr (by omega) (by omega)
          · exact req4_ok w P N A n c xs hl hr (by omega) (by omega)
        · rw [hB]
          exact docReq_ok24 w _ _ N A n c xs _ _ rfl hr (by omega) (by omega) (by omega) (by omega) (fun w' hr' => refReq24 w' op P h24 N A n c xs hl hr' (by omega) (by omega))
end

section
open Go.RowKit

theorem results_row4_tmp {P : Program} {fn : Func} {p u : Tmp} {ty : TypeId} (h : fn.results = #[.cell p ty, .tmp u]) (tmps : Array Value) (w : World) (g : Nat) (t : TypeId) (cs : Array Value) (fr : Nat × Nat) (d : TypeDesc)
    (hp : tmps.getD p undef = .pointer (some ⟨g, 0, none⟩)) (hg : w.heap[g]? = some (.cells cs t fr))
    (hu : P.underlying ty = some d) (hd : (match d with | .struct _ | .array _ _ => true | _ => false) = true) (hi : (P.info? ty).map (·.size) = some cs.size) :
    (results fn tmps).run P w = .ok (.tuple #[.agg cs, tmps.getD u undef]) w := results_row_tmp h tmps w g t cs fr d hp hg hu hd hi
/-- the return of ReadRequest, DocReadRequest, guess: a call's cell and a number -/
theorem ret_call2 {fn : Func} (h : fn.results = #[.cell 2 63, .tmp 3]) {tmps : Array Value} {w : World} {g : Nat} {a b c d : Value} {t : TypeId} {fr : Nat × Nat} (hp : tmps.getD 2 undef = .pointer (some ⟨g, 0, none⟩)) (hg : w.heap[g]? = some (.cells #[a, b, c, d] t fr)) :
    (results fn tmps).run Try.prog w = .ok (.tuple #[.agg #[a, b, c, d], tmps.getD 3 undef]) w :=
  results_row_tmp h tmps w g t #[a, b, c, d] fr _ hp hg Try.underlying63 (by rfl) (by kernel_rfl)
/-- a call that was read -/
def RetCall (op p : Nat) (xs : List Nat) (N : Nat) (w : World) (e : Ending) (w' : World) : Prop :=
  ∃ A c, e = .returned (.tuple #[callV (op : Int) (p : Int) A xs.length c (N : Int), .int .i64 0]) ∧ w'.ownsRow w.heap.size 5 1 (.slice A xs.length c) xs.length (vals .u8 xs) ∧ Ext w w'
theorem rd_blk {w : World} {A : Option Addr} {ys : List Nat} (hr : Rd w A (vals .u8 ys)) : ys ≠ [] → ∀ a, A = some a → a.block < w.heap.size := fun hne a ha => by
  obtain ⟨b, off, hA, hc⟩ := hr (by simpa [vals] using hne)
  cases ys with
  | nil => exact absurd rfl hne
  | cons x t => rw [hA] at ha; injection ha with ha; subst ha; exact World.block_lt_of_cell? w _ (hc 0 _ rfl)
theorem ext_row4 {w w2 : World} {g : Nat} (h : Ext w w2) (hg : w.heap.size ≤ g) (a b d e : Value) : Ext w ((((w2.setCell ⟨g, 0, none⟩ a).setCell ⟨g, 1, none⟩ b).setCell ⟨g, 2, none⟩ d).setCell ⟨g, 3, none⟩ e) :=
  (((h.setCell (p := ⟨g, 0, none⟩) hg a).setCell (p := ⟨g, 1, none⟩) hg b).setCell (p := ⟨g, 2, none⟩) hg d).setCell (p := ⟨g, 3, none⟩) hg e

set_option maxHeartbeats 1000000 in
theorem readReq_err (w : World) (A : Option Addr) (n c : Nat) (q : Int) (hq : (q == 0) = false) (ys : List Nat) (hr : Rd w A (vals .u8 ys))
    (hC : ∀ W g, Rd W A (vals .u8 ys) → w.heap.size ≤ W.heap.size → w.heap.size ≤ g → g < W.heap.size → W.heap[g]? = some (.cells #[.int .u8 0, .int .i64 0, .slice none 0 0, .int .i64 0] 63 (0, 0)) → Calls Try.prog 76 #[.slice A n c, .func (.func 77) #[] #[.pointer (some ⟨g, 0, none⟩)]] W fun e w' => e = .returned (.int .i64 q) ∧ W.grownBy w' (some g)) :
    Calls Try.prog 38 #[.slice A n c] w (RetE (.tuple #[callZ, .int .i64 q]) w) := by
  have hmf : ∀ (fn : Fn) (first cap : Array Value) (w : World), (Instr.makeFunc fn first cap).run Try.prog w = .ok (.func fn first cap) w := fun _ _ _ _ => rfl
  have HC := Lib.hid hC; have Hr := Lib.hid hr; clear hC hr
  have hq' : (q != 0) = true := by simp [bne, hq]
  go_enter Try.func38, Try.ntmps38
  go_wp2_with fail
  refine (HC.out _ (w.heap.size + 1) ((Hr.out.alloc _).alloc _) (by simp; omega) (by omega) (by simp) (blk_newk _ _ (by simp))).mono ?_
  rintro e w2 ⟨rfl, hG⟩
  have K := Lib.hid (blk_grown (blk_past (blk_new w _) _) hG (by omega))
  have hx := ext_grown (((Ext.refl w).alloc _).alloc _) hG (by omega)
  clear hG
  have k0 := blk_cell K.out 0; have k1 := blk_cell K.out 1; have k2 := blk_cell K.out 2; have k3 := blk_cell K.out 3
  have f0 := blk_frozen K.out 0; have f1 := blk_frozen K.out 1; have f2 := blk_frozen K.out 2; have f3 := blk_frozen K.out 3
  go_wp2_with fail
  refine bodyPost_ret (ret_call2 rfl rfl (row4 K.out _ _ _ _)) rfl ?_
  exact ⟨rfl, ext_row4 hx (Nat.le_refl _) _ _ _ _⟩
set_option maxHeartbeats 1000000 in
theorem readReq_good (w : World) (A : Option Addr) (n c : Nat) (ys xs : List Nat) (op p N : Nat) (hr : Rd w A (vals .u8 ys))
    (hC : ∀ W g, Rd W A (vals .u8 ys) → w.heap.size ≤ W.heap.size → w.heap.size ≤ g → g < W.heap.size → W.heap[g]? = some (.cells #[.int .u8 0, .int .i64 0, .slice none 0 0, .int .i64 0] 63 (0, 0)) → Calls Try.prog 76 #[.slice A n c, .func (.func 77) #[] #[.pointer (some ⟨g, 0, none⟩)]] W fun e w' => ∃ A c, e = .returned (.int .i64 0) ∧ W.grownBy w' (some g) ∧ w'.heap[g]? = some (.cells #[.int .u8 (op : Int), .int .i64 (p : Int), .slice A xs.length c, .int .i64 (N : Int)] 63 (0, 0)) ∧ w'.ownsRow W.heap.size 5 1 (.slice A xs.length c) xs.length (vals .u8 xs)) :
    Calls Try.prog 38 #[.slice A n c] w (RetCall op p xs N w) := by
  have hmf : ∀ (fn : Fn) (first cap : Array Value) (w : World), (Instr.makeFunc fn first cap).run Try.prog w = .ok (.func fn first cap) w := fun _ _ _ _ => rfl
  have HC := Lib.hid hC; have Hr := Lib.hid hr; clear hC hr
  go_enter Try.func38, Try.ntmps38
  go_wp2_with fail
  refine (HC.out _ (w.heap.size + 1) ((Hr.out.alloc _).alloc _) (by simp; omega) (by omega) (by simp) (blk_newk _ _ (by simp))).mono ?_
  rintro e w2 ⟨A1, c1, rfl, hG, hc, ho⟩
  have K := Lib.hid (blk_grown (blk_past (blk_new w _) _) hG (by omega))
  have hx := ext_grown (((Ext.refl w).alloc _).alloc _) hG (by omega)
  have KC := Lib.hid hc
  have Ho : Hid (w2.ownsRow (w.heap.size + 1) 5 1 (.slice A1 xs.length c1) xs.length (vals .u8 xs)) := own_base ho (by simp)
  clear hG hc ho
  have k0 := blk_cell K.out 0; have k1 := blk_cell K.out 1; have k2 := blk_cell K.out 2; have k3 := blk_cell K.out 3
  have f0 := blk_frozen K.out 0; have f1 := blk_frozen K.out 1; have f2 := blk_frozen K.out 2; have f3 := blk_frozen K.out 3
  have c0 := blk_cell KC.out 0; have c1 := blk_cell KC.out 1; have c2 := blk_cell KC.out 2; have c3 := blk_cell KC.out 3
  go_wp2_with fail
  refine bodyPost_ret (ret_call2 rfl rfl (row4 K.out _ _ _ _)) rfl ?_
  exact ⟨A1, _, rfl, own_row4 Ho.out (by omega) _ _ _ _, ext_row4 hx (Nat.le_refl _) _ _ _ _⟩

theorem readReq_ok (w : World) (A : Option Addr) (n c : Nat) (ys xs : List Nat) (op p N : Nat) (hl : ys.length = n) (hn : n ≤ 4096) (hnc : n ≤ c) (hb : ∀ x ∈ ys, x < 256) (hr : Rd w A (vals .u8 ys)) (hB : Begins ys op p xs N []) :
    Calls Try.prog 38 #[.slice A n c] w (RetCall op p xs N w) := by
  refine readReq_good w A n c ys xs op p N hr fun W g hR hs1 hs2 hs3 hc => ?_
  exact read_goodQ W A n c g 63 (fun A c => #[.int .u8 (op : Int), .int .i64 (p : Int), .slice A xs.length c, .int .i64 (N : Int)]) ys xs hl hn hnc hR hs3 w.heap.size hs1 (rd_blk hr) fun W' r hI hrr hgW hss => byReq W' r w.heap.size g ys op p N xs [] (by omega) hb hB hI hs2 (by omega) (by omega) (hgW.trans hc)
theorem readReq_none (w : World) (A : Option Addr) (n c : Nat) (ys : List Nat) (hl : ys.length = n) (hn : n ≤ 4096) (hnc : n ≤ c) (hb : ∀ x ∈ ys, x < 256) (hr : Rd w A (vals .u8 ys)) (hno : ¬ IsReq ys) :
    Calls Try.prog 38 #[.slice A n c] w (RetE (.tuple #[callZ, .int .i64 3]) w) := by
  refine readReq_err w A n c 3 rfl ys hr fun W g hR hs1 hs2 hs3 hc => ?_
  by_cases hB : ∃ op p xs N rest, Begins ys op p xs N rest
  · obtain ⟨op, p, xs, N, rest, hB⟩ := hB
    have hrest : rest ≠ [] := by rintro rfl; exact hno (begins_isReq.2 ⟨op, p, xs, N, hB⟩)
    exact read_moreQ W A n c g 63 (fun A c => #[.int .u8 (op : Int), .int .i64 (p : Int), .slice A xs.length c, .int .i64 (N : Int)]) ys xs rest hrest hl hn hnc hR hs3 w.heap.size hs1 (rd_blk hr) fun W' r hI hrr hgW hss => byReq W' r w.heap.size g ys op p N xs rest (by omega) hb hB hI hs2 (by omega) (by omega) (hgW.trans hc)
  · exact read_wrongQ W A n c g ys hl hn hnc hR hs3 w.heap.size hs1 (rd_blk hr) fun W' r hI hrr hgW hss => byReq_wrong W' r w.heap.size g ys (by omega) hb (by omega) hB hI
theorem readReq_long (w : World) (A : Option Addr) (n c : Nat) (ys : List Nat) (hr : Rd w A (vals .u8 ys)) (hn : 4096 < n) :
    Calls Try.prog 38 #[.slice A n c] w (RetE (.tuple #[callZ, .int .i64 2]) w) := by
  refine readReq_err w A n c 2 rfl ys hr fun W g hR hs1 hs2 hs3 hc => ?_
  exact (read_long W A n c _ hn).mono fun e w' ⟨he, hx⟩ => ⟨he, grown_none hx _⟩
end

section
open Go.RowKit

/-- what Feed leaves: 'all' is what waited and what came -/
def FeedR (all : List Nat) (w : World) (r : Nat) (e : Ending) (w' : World) : Prop :=
  ∃ S A n c, (w.heap.size ≤ S ∧ S ≤ w'.heap.size) ∧ PL w' S A n c (parse all).1 ∧ w.grownBy w' (some r) ∧
    ((parse all).2.2 = true → e = .returned (.tuple #[.slice A n c, .int .i64 12]) ∧ IsRdr w' r [] true (fun b => w.heap.size ≤ b ∧ b < S)) ∧
    ((parse all).2.2 = false → e = .returned (.tuple #[.slice A n c, .int .i64 0]) ∧ IsRdr w' r (parse all).2.1 false (fun b => w.heap.size ≤ b ∧ b < S))

theorem next_w (w : World) (r : Nat) (S : Nat → Prop) (ws : List Nat) (h : IsRdr w r ws false S) (hb : ∀ x ∈ ws, x < 256) (hN : ws.length ≤ 9223372036854775807) (hh : headF ws = 0) :
    Calls Try.prog 62 #[.pointer (some ⟨r, 0, none⟩)] w fun e w' => e = .returned (.tuple #[.slice none 0 0, .bool false, .int .i64 0]) ∧ IsRdr w' r ws false S ∧ w.grownBy w' (some r) :=
  (next_any w r S ws h hb hN).mono fun e w' ⟨hg, hc⟩ => by
    rcases hc with ⟨_, h2, h3⟩ | ⟨h1, _⟩ | ⟨h1, _⟩
    · exact ⟨h2, h3, hg⟩
    · omega
    · omega
theorem next_b (w : World) (r : Nat) (S : Nat → Prop) (ws : List Nat) (h : IsRdr w r ws false S) (hb : ∀ x ∈ ws, x < 256) (hN : ws.length ≤ 9223372036854775807) (hh : headF ws = 1) :
    Calls Try.prog 62 #[.pointer (some ⟨r, 0, none⟩)] w fun e w' => e = .returned (.tuple #[.slice none 0 0, .bool false, .int .i64 12]) ∧ (∃ A n c, w'.heap[r]? = some (.cells #[.slice A n c, .bool false] 103 (0, 0))) ∧ w.grownBy w' (some r) :=
  (next_any w r S ws h hb hN).mono fun e w' ⟨hg, hc⟩ => by
    rcases hc with ⟨h1, _⟩ | ⟨_, h2, h3⟩ | ⟨h1, _⟩
    · omega
    · exact ⟨h2, h3, hg⟩
    · omega
theorem next_f (w : World) (r : Nat) (S : Nat → Prop) (ws : List Nat) (h : IsRdr w r ws false S) (hb : ∀ x ∈ ws, x < 256) (hN : ws.length ≤ 9223372036854775807) (hh : headF ws = 2) :
    Calls Try.prog 62 #[.pointer (some ⟨r, 0, none⟩)] w fun e w' => ∃ A c, e = .returned (.tuple #[.slice A (payF ws).length c, .bool true, .int .i64 0]) ∧ w'.ownsRow w.heap.size 5 1 (.slice A (payF ws).length c) (payF ws).length (vals .u8 (payF ws)) ∧ IsRdr w' r (restF ws) false S ∧ w.grownBy w' (some r) :=
  (next_any w r S ws h hb hN).mono fun e w' ⟨hg, hc⟩ => by
    rcases hc with ⟨h1, _⟩ | ⟨h1, _⟩ | ⟨_, ⟨A, c, h2, h3⟩, h4⟩
    · omega
    · omega
    · exact ⟨A, c, h2, h3, h4, hg⟩

set_option maxRecDepth 100000 in
set_option maxHeartbeats 2000000 in
theorem feed_open (w : World) (r : Nat) (S : Nat → Prop) (ws : List Nat) (A : Option Addr) (n c : Nat) (xs : List Nat) (h : IsRdr w r ws false S) (hws : ∀ x ∈ ws, x < 256) (hl : xs.length = n) (hb : ∀ x ∈ xs, x < 256) (hr : Rd w A (vals .u8 xs))
    (hN : ws.length + n ≤ 5000000000000) :
    Calls Try.prog 23 #[.pointer (some ⟨r, 0, none⟩), .slice A n c] w (FeedR (ws ++ xs) w r) := by
  obtain ⟨A0, n0, c0, hblk, hl0, hnc0, hr0, hAS⟩ := h
  have h0 : w.cell? ⟨r, 0, none⟩ = some (.slice A0 n0 c0) := blk_cell hblk 0
  have h1 : w.cell? ⟨r, 1, none⟩ = some (.bool false) := blk_cell hblk 1
  have hrl := blk_lt hblk
  have C1 := Lib.hid (clone_any A0 n0 c0 ws w hl0 (by omega) hr0)
  have hN0 : n0 + n ≤ 5000000000000 := by omega
  have Hblk := Lib.hid hblk; have Hl0 := Lib.hid hl0; have Hr0 := Lib.hid hr0; have HAS := Lib.hid hAS; clear hblk hl0 hr0 hAS
  have Hl := Lib.hid hl; have Hr := Lib.hid hr; have Hb := Lib.hid hb; have Hws := Lib.hid hws; clear hl hr hb hws
  go_enter Try.func23, Try.ntmps23
  go_wp2_with fail
  refine C1.out.mono ?_
  rintro e w1 ⟨A1, c1, rfl, hown1, hx1⟩
  rw [Hl0.out] at hown1 ⊢
  go_wp2_with (first | (at_builtin; refine app_u8 _ rfl (.tmp 23) (.tmp 24) rfl w.heap.size rfl hown1 rfl Hl.out (Hr.out.ext hx1) (by omega) hx1.size ?_; intro A2 c2 w2 hown2 hgrow2 _; have hx2 : Ext w w2 := hx1.grown hgrow2 (own_ge hown1); have h02 : w2.cell? ⟨r, 0, none⟩ = some (.slice A0 n0 c0) := (hx2.cell (p := ⟨r, 0, none⟩) hrl).trans h0; have hf2 : w2.frozen? ⟨r, 0, none⟩ = false := (hx2.frozen (p := ⟨r, 0, none⟩) hrl).trans (blk_frozen Hblk.out 0)) | fail)
  have hblk2 : (w2.setCell ⟨r, 0, none⟩ (.slice A2 (n0 + n) c2)).heap[r]? = some (.cells #[.slice A2 (n0 + n) c2, .bool false] 103 (0, 0)) := blk_set (blk_ext Hblk.out hx2) 0 _
  have hg2 : w.grownBy (w2.setCell ⟨r, 0, none⟩ (.slice A2 (n0 + n) c2)) (some r) := grown_setCell (grown_ext (World.grownBy.refl w _) hx2) 0 _
  have hall : (ws ++ xs).length = n0 + n := by rw [List.length_append, Hl0.out, Hl.out]
  have hrd2 : IsRdr (w2.setCell ⟨r, 0, none⟩ (.slice A2 (n0 + n) c2)) r (ws ++ xs) false (fun b => w.heap.size ≤ b ∧ b < w2.heap.size) := by
    refine ⟨A2, n0 + n, c2, hblk2, hall, own_cap hown2, ?_, fun a ha => ⟨own_ge hown2 _ (by rw [ha]; rfl), own_lt hown2 a ha⟩⟩
    exact (Rd.of_own hown2).grown (grown_set _ _ _ _) (fun a ha hr => by
      injection hr with hr
      have := (hown2.lt a.block (by rw [ha]; rfl)).1
      omega)
  have hsz2 : w.heap.size ≤ w2.heap.size := hx2.size
  have hball : ∀ x ∈ ws ++ xs, x < 256 := fun x hx => by
    rcases List.mem_append.1 hx with hx | hx
    · exact Hws.out x hx
    · exact Hb.out x hx
  have Hg2 := Lib.hid hg2; have Hrd2 := Lib.hid hrd2; have Hball := Lib.hid hball; have Hall := Lib.hid hall
  clear hown1 hgrow2 hx1 hown2 h02 hf2 hblk2 hg2 hrd2 hball hall h0 h1
  generalize hS : w2.heap.size = S2 at *
  have HS := Lib.hid hS; clear hS
  generalize hAL : ws ++ xs = al at *
  clear hAL
  go_loopg [6] (n0 + n) (fun g out wr => ∃ done todo A n' c, todo.length = g ∧ out = .slice A n' c ∧ PL wr S2 A n' c done ∧ IsRdr wr r todo false (fun b => w.heap.size ≤ b ∧ b < S2) ∧ w.grownBy wr (some r) ∧ S2 ≤ wr.heap.size ∧ (∀ x ∈ todo, x < 256) ∧ n' + todo.length ≤ n0 + n ∧ done ++ (parse todo).1 = (parse al).1 ∧ (parse todo).2 = (parse al).2)
  case atStart => exact ⟨[], al, none, 0, 0, Hall.out, rfl, PL.nil _ _, Hrd2.out, Hg2.out, by have := HS.out; simp; omega, Hball.out, by have := Hall.out; omega, rfl, rfl⟩
  case round =>
    obtain ⟨done, todo, Ao, no, co, hgk, rfl, hPL, hR, hgw, hSw, hbt, hle, hp1, hp2⟩ := hrel
    have hrS2 : r < S2 := by omega
    have HP1 := Lib.hid hp1; have HP2 := Lib.hid hp2; have HPL := Lib.hid hPL; have HR := Lib.hid hR; have HGW := Lib.hid hgw; have HBT := Lib.hid hbt; have HGK := Lib.hid hgk
    clear hp1 hp2 hPL hR hgw hbt hgk
    rcases headF_cases todo with hh | hh | hh
    · have C := Lib.hid (next_w wr r _ todo HR.out HBT.out (by omega) hh)
      have HH := Lib.hid hh; clear hh
      go_wp2_with fail
      refine C.out.mono ?_
      rintro e w4 ⟨rfl, hR4, hg4⟩
      have HR4 := Lib.hid hR4; have HG4 := Lib.hid hg4; clear hR4 hg4
      go_wp2_with fail
      go_ret2
      have e1 := parse_wait HH.out
      refine ⟨S2, Ao, no, co, ⟨hsz2, Nat.le_trans hSw HG4.out.size⟩, ?_, World.grown_trans HGW.out HG4.out, ?_, ?_⟩
      · rw [← HP1.out, e1, List.append_nil]; exact HPL.out.keep HG4.out (fun k hk => by injection hk with hk; omega)
      · intro h; rw [← HP2.out, e1] at h; cases h
      · intro _; rw [← HP2.out, e1]; exact ⟨rfl, HR4.out⟩
    · have C := Lib.hid (next_b wr r _ todo HR.out HBT.out (by omega) hh)
      have HH := Lib.hid hh; clear hh
      go_wp2_with fail
      refine C.out.mono ?_
      rintro e w4 ⟨rfl, ⟨A4, n4, c4, hb4⟩, hg4⟩
      have k0 : w4.cell? ⟨r, 0, none⟩ = some (.slice A4 n4 c4) := blk_cell hb4 0
      have k1 : w4.cell? ⟨r, 1, none⟩ = some (.bool false) := blk_cell hb4 1
      have f0 := blk_frozen hb4 0
      have f1 := blk_frozen hb4 1
      have HB4 := Lib.hid hb4; have HG4 := Lib.hid hg4; clear hb4 hg4
      go_wp2_with fail
      go_ret2
      have e1 := parse_bad HH.out
      have hg5 := grown_setCell (grown_setCell (World.grown_trans HGW.out HG4.out) 1 (.bool true)) 0 (.slice none 0 0)
      refine ⟨S2, Ao, no, co, ⟨hsz2, by simpa using Nat.le_trans hSw HG4.out.size⟩, ?_, hg5, ?_, ?_⟩
      · rw [← HP1.out, e1, List.append_nil]
        exact (HPL.out.keep HG4.out (fun k hk => by injection hk with hk; omega)).keep (grown_setCell (grown_set _ _ _ _) 0 _) (fun k hk => by injection hk with hk; omega)
      · intro _; exact ⟨rfl, none, 0, 0, blk_set (blk_set HB4.out 1 _) 0 _, rfl, Nat.le_refl _, Rd.nil _ _, fun a ha => by cases ha⟩
      · intro h; rw [← HP2.out, e1] at h; cases h
    · have C := Lib.hid (next_f wr r _ todo HR.out HBT.out (by omega) hh)
      have hrl := restF_lt hh
      have hrl1 : (restF todo).length < todo.length := hrl.1
      have hps : 0 < (payF todo).length := by omega
      clear hrl
      have hpm : ∀ x ∈ restF todo, x < 256 := fun x hx => HBT.out x (List.mem_of_mem_drop (List.mem_of_mem_drop hx))
      have HPM := Lib.hid hpm; clear hpm
      have HH := Lib.hid hh; clear hh
      go_wp2_with fail
      refine C.out.mono ?_
      rintro e w4 ⟨A4, c4, rfl, hown4, hR4, hg4⟩
      obtain ⟨vs, hPv⟩ := HPL.out.open_ hg4 (fun k hk => by injection hk with hk; omega)
      have hov := hPv.own
      have HOWN4 := Lib.hid hown4; have HR4 := Lib.hid hR4; have HG4 := Lib.hid hg4; have HPV := Lib.hid hPv; clear hown4 hR4 hg4 hPv
      have hsz4 : wr.heap.size ≤ w4.heap.size := HG4.out.size
      go_wp2_with (first | (at_builtin; refine app_bb _ rfl (.tmp 47) (.tmp 49) rfl S2 rfl (hov.alloc _) rfl (m := 1) (news := [.slice A4 (payF todo).length c4]) rfl (rd_new _ _ _) (fun u hu => by rw [List.mem_singleton.1 hu]; rfl) (by omega) (by simp; omega) ?_; intro B5 cb5 w5 hown5 hgrow5 _) | fail)
      go_roundg (restF todo).length
      case measure => have := HGK.out; omega
      case rel =>
        have hx5 : w4.grownBy w5 (Value.slice Ao no co).ownBlock := World.grown_trans (World.grownBy_alloc _ _ _) hgrow5
        have e1 := parse_frame HH.out
        have hrow : ∀ k, (Value.slice Ao no co).ownBlock = some k → S2 ≤ k := own_ge hov
        obtain ⟨A6, n6, c6, q1, q2, q3, q4, q6⟩ := HR4.out
        have q7 : w5.heap[r]? = some (.cells #[.slice A6 n6 c6, .bool false] 103 (0, 0)) := (hx5.block r (blk_lt q1) (fun e => by have := hrow r e.symm; omega)).trans q1
        refine ⟨done ++ [payF todo], restF todo, B5, no + 1, cb5, rfl, rfl, ?_, ⟨A6, n6, c6, q7, q2, q3, q4.grown hx5 (fun a ha hr => by have := hrow _ hr; have := (q6 a ha).2; omega), q6⟩, ?_, ?_, HPM.out, ?_, ?_, ?_⟩
        · exact HPV.out.snoc HOWN4.out hps hSw hsz4 (World.grownBy_alloc _ _ _) hown5 hgrow5
        · have hg := World.grown_trans HGW.out HG4.out
          exact ⟨hx5.os.trans hg.os, hx5.tape.trans hg.tape, hx5.output.trans hg.output, Nat.le_trans hg.size hx5.size, fun i hi hne => (hx5.block i (Nat.lt_of_lt_of_le hi hg.size) (fun e => by have := hrow i e.symm; omega)).trans (hg.block i hi hne)⟩
        · have := hx5.size; omega
        · omega
        · rw [← HP1.out, e1]; simp
        · rw [← HP2.out, e1]
end

section
open Go.RowKit

theorem feed_nil (w : World) (A : Option Addr) (n c : Nat) :
    Calls Try.prog 23 #[.pointer none, .slice A n c] w fun e w' => e = .returned (.tuple #[.slice none 0 0, .int .i64 7]) ∧ w = w' := by
  go_enter Try.func23, Try.ntmps23
  go_wp2_with fail
  go_ret2
  exact ⟨rfl, rfl⟩
theorem feed_closed (w : World) (r : Nat) (S : Nat → Prop) (ws : List Nat) (A : Option Addr) (n c : Nat) (h : IsRdr w r ws true S) :
    Calls Try.prog 23 #[.pointer (some ⟨r, 0, none⟩), .slice A n c] w fun e w' => e = .returned (.tuple #[.slice none 0 0, .int .i64 13]) ∧ w = w' := by
  obtain ⟨A0, n0, c0, hblk, _⟩ := h
  have h1 : w.cell? ⟨r, 1, none⟩ = some (.bool true) := blk_cell hblk 1
  clear hblk
  go_enter Try.func23, Try.ntmps23
  go_wp2_with fail
  go_ret2
  exact ⟨rfl, rfl⟩
theorem end_nil (w : World) :
    Calls Try.prog 21 #[.pointer none] w fun e w' => e = .returned (.tuple #[.int .i64 0, .int .i64 7]) ∧ w = w' := by
  go_enter Try.func21, Try.ntmps21
  go_wp2_with fail
  go_ret2
  exact ⟨rfl, rfl⟩
theorem end_closed (w : World) (r : Nat) (S : Nat → Prop) (ws : List Nat) (h : IsRdr w r ws true S) :
    Calls Try.prog 21 #[.pointer (some ⟨r, 0, none⟩)] w fun e w' => e = .returned (.tuple #[.int .i64 0, .int .i64 13]) ∧ w = w' := by
  obtain ⟨A0, n0, c0, hblk, _⟩ := h
  have h1 : w.cell? ⟨r, 1, none⟩ = some (.bool true) := blk_cell hblk 1
  clear hblk
  go_enter Try.func21, Try.ntmps21
  go_wp2_with fail
  go_ret2
  exact ⟨rfl, rfl⟩
set_option maxHeartbeats 400000 in
theorem end_open (w : World) (r : Nat) (S : Nat → Prop) (ws : List Nat) (h : IsRdr w r ws false S) :
    Calls Try.prog 21 #[.pointer (some ⟨r, 0, none⟩)] w fun e w' => e = .returned (.tuple #[.int .i64 (ws.length : Int), .int .i64 0]) ∧ IsRdr w' r [] true S ∧ w.grownBy w' (some r) := by
  obtain ⟨A0, n0, c0, hblk, hl, hnc, hr, hA⟩ := h
  subst hl
  have h1 : w.cell? ⟨r, 1, none⟩ = some (.bool false) := blk_cell hblk 1
  have h0 : w.cell? ⟨r, 0, none⟩ = some (.slice A0 ws.length c0) := blk_cell hblk 0
  have f0 := blk_frozen hblk 0
  have f1 := blk_frozen hblk 1
  have Hblk := Lib.hid hblk; clear hblk
  go_enter Try.func21, Try.ntmps21
  go_wp2_with fail
  go_ret2
  exact ⟨rfl, ⟨none, 0, 0, blk_set (blk_set Hblk.out 1 _) 0 _, rfl, Nat.le_refl _, Rd.nil _ _, fun a ha => by cases ha⟩, grown_setCell (grown_set _ _ _ _) 0 _⟩
theorem waiting_nil (w : World) :
    Calls Try.prog 27 #[.pointer none] w fun e w' => e = .returned (.int .i64 0) ∧ w = w' := by
  go_enter Try.func27, Try.ntmps27
  go_wp2_with fail
  go_ret
  exact ⟨rfl, rfl⟩
theorem waiting_any (w : World) (r : Nat) (S : Nat → Prop) (ws : List Nat) (cl : Bool) (h : IsRdr w r ws cl S) :
    Calls Try.prog 27 #[.pointer (some ⟨r, 0, none⟩)] w fun e w' => e = .returned (.int .i64 (ws.length : Int)) ∧ w = w' := by
  obtain ⟨A0, n0, c0, hblk, hl, _⟩ := h
  subst hl
  have h0 : w.cell? ⟨r, 0, none⟩ = some (.slice A0 ws.length c0) := blk_cell hblk 0
  clear hblk
  go_enter Try.func27, Try.ntmps27
  go_wp2_with fail
  go_ret
  exact ⟨rfl, rfl⟩
theorem frNew (w : World) :
    Calls Try.prog 16 #[] w fun e w' => e = .returned (.pointer (some ⟨w.heap.size, 0, none⟩)) ∧ IsRdr w' w.heap.size [] false (fun _ => False) ∧ Ext w w' ∧ w.heap.size + 1 = w'.heap.size := by
  go_enter Try.func16, Try.ntmps16
  go_wp2_with fail
  go_ret
  exact ⟨rfl, ⟨none, 0, 0, blk_new w _, rfl, Nat.le_refl _, Rd.nil _ _, fun a ha => by cases ha⟩, (Ext.refl w).alloc _, by simp⟩

/-- the four bytes of a length -/
def len4 (n : Nat) : List Nat := [n / 16777216 % 256, n / 65536 % 256, n / 256 % 256, n % 256]
theorem len4_num (n : Nat) (h : n < 4294967296) : numB (len4 n) = n := by
  have e : numB (len4 n) = (((0 * 256 + n / 16777216 % 256) * 256 + n / 65536 % 256) * 256 + n / 256 % 256) * 256 + n % 256 := rfl
  rw [e]; omega
theorem frEncode_long (w : World) (A : Option Addr) (n c : Nat) (h : 4096 < n) :
    Calls Try.prog 18 #[.slice A n c] w fun e w' => e = .returned (.tuple #[.slice none 0 0, .int .i64 2]) ∧ w = w' := by
  go_enter Try.func18, Try.ntmps18
  go_wp2_with fail
  go_ret2
  exact ⟨rfl, rfl⟩
theorem frEncode_none (w : World) (A : Option Addr) (c : Nat) :
    Calls Try.prog 18 #[.slice A 0 c] w fun e w' => e = .returned (.tuple #[.slice none 0 0, .int .i64 3]) ∧ w = w' := by
  go_enter Try.func18, Try.ntmps18
  go_wp2_with fail
  go_ret2
  exact ⟨rfl, rfl⟩
set_option maxHeartbeats 400000 in
theorem frEncode_ok (w : World) (A : Option Addr) (n c : Nat) (xs : List Nat) (h : n ≤ 4096) (h0 : 1 ≤ n) (hl : xs.length = n) (hr : Rd w A (vals .u8 xs)) :
    Calls Try.prog 18 #[.slice A n c] w (RetBE (len4 n ++ xs) 0 w) := by
  have hne : ((n : Int) == 0) = false := by rw [beq_eq_false_iff_ne]; omega
  have Hl := Lib.hid hl; have Hr := Lib.hid hr; clear hl hr
  have ho := fun (x0 x1 x2 x3 : Int) (e0 : x0 = ((n / 16777216 % 256 : Nat) : Int)) (e1 : x1 = ((n / 65536 % 256 : Nat) : Int)) (e2 : x2 = ((n / 256 % 256 : Nat) : Int)) (e3 : x3 = ((n % 256 : Nat) : Int)) => show (w.alloc (.cells #[.int .u8 x0, .int .u8 x1, .int .u8 x2, .int .u8 x3] 5)).ownsRow w.heap.size 5 1 (.slice (some ⟨w.heap.size, 0, none⟩) 4 4) 4 (vals .u8 (len4 n)) by
    subst e0 e1 e2 e3
    exact own_made w _ 5 1 4 rfl (by unfold maxLen; omega) (Nat.le_refl _)
  go_enter Try.func18, Try.ntmps18
  go_wp2_with (first | (at_builtin; refine app_u8 _ rfl (.tmp 24) (.tmp 25) rfl w.heap.size rfl (ho _ _ _ _ (by omega) (by omega) (by omega) (by omega)) rfl Hl.out (Hr.out.alloc _) (by omega) (by simp) ?_; intro A1 c1 w1 hown1 hgrow1 _) | fail)
  go_ret2
  exact retBE_of (by rw [List.length_append, Hl.out]; rfl) hown1 (((Ext.refl w).alloc _).grown hgrow1 (by simp [Value.ownBlock]))
end

section
open Go.RowKit

/-- reads as a list of lists of bytes -/
def RdBB (w : World) (A : Option Addr) (pss : List (List Nat)) : Prop :=
  ∃ vs : List Value, vs.length = pss.length ∧ Rd w A vs ∧ ∀ (i : Nat) (ps : List Nat), pss[i]? = some ps → ∃ (Ai : Option Addr) (ci : Nat), vs[i]? = some (Value.slice Ai ps.length ci) ∧ ps.length ≤ ci ∧ Rd w Ai (vals .u8 ps)
theorem PL.rd {w : World} {base : Nat} {A : Option Addr} {n c : Nat} {pss : List (List Nat)} (h : PL w base A n c pss) : RdBB w A pss := by
  obtain ⟨hl, vs, gs, ho, _, _, _, hall⟩ := h
  refine ⟨vs, by rw [hl]; have := ho.1; omega, Rd.of_own ho, fun i ps hi => ?_⟩
  obtain ⟨g, ci, _, h2, h3⟩ := hall i ps hi
  exact ⟨_, ci, h2, own_cap h3, Rd.of_own h3⟩
theorem RdBB.ext {w w' : World} {A : Option Addr} {pss : List (List Nat)} (h : RdBB w A pss) (hx : Ext w w') : RdBB w' A pss := by
  obtain ⟨vs, hl, hr, hall⟩ := h
  exact ⟨vs, hl, hr.ext hx, fun i ps hi => by
    obtain ⟨Ai, ci, h1, h2, h3⟩ := hall i ps hi
    exact ⟨Ai, ci, h1, h2, h3.ext hx⟩⟩
theorem RdBB.at_ {w : World} {A : Option Addr} {pss : List (List Nat)} (h : RdBB w A pss) {k : Nat} {ps : List Nat} (hk : pss[k]? = some ps) :
    ∃ b off Ai ci, A = some ⟨b, off, none⟩ ∧ w.cell? ⟨b, off + k, none⟩ = some (.slice Ai ps.length ci) ∧ ps.length ≤ ci ∧ Rd w Ai (vals .u8 ps) := by
  obtain ⟨vs, hl, hr, hall⟩ := h
  obtain ⟨Ai, ci, h1, h2, h3⟩ := hall k ps hk
  obtain ⟨b, off, hA, hc⟩ := hr (by intro e; rw [e] at h1; simp at h1)
  exact ⟨b, off, Ai, ci, hA, hc k _ h1, h2, h3⟩

set_option maxHeartbeats 1000000 in
theorem refSame_true (w : World) (A B : Option Addr) (n c d : Nat) (pss : List (List Nat)) (hl : pss.length = n) (hn : n ≤ 9223372036854775807) (hb : ∀ ps ∈ pss, ps.length ≤ 9223372036854775807 ∧ ∀ x ∈ ps, x < 256) (hA : RdBB w A pss) (hB : RdBB w B pss) :
    Calls Try.prog 25 #[.slice A n c, .slice B n d] w (RetQ (.bool true) w) := by
  have Hl := Lib.hid hl; have HA := Lib.hid hA; have HB := Lib.hid hB; have Hb := Lib.hid hb; clear hl hA hB hb
  go_enter Try.func25, Try.ntmps25
  go_wp2_with fail
  go_loopw [13] (fun i wr => ∃ k q : Nat, k ≤ n ∧ i = .int .i64 k ∧ wr = w.drewN q) (fun i _ => n - (intOf i).toNat)
  case atStart => exact ⟨0, 0, Nat.zero_le _, rfl, rfl⟩
  case round =>
    obtain ⟨k, q, hk, rfl, rfl⟩ := hrel
    by_cases hlt : k < n
    · obtain ⟨ps, hps⟩ : ∃ ps, pss[k]? = some ps := ⟨_, List.getElem?_eq_getElem (by rw [Hl.out]; exact hlt)⟩
      have hbp := Hb.out ps (List.mem_of_getElem? hps)
      obtain ⟨b, off, Ai, ci, hA, hc, _, hr⟩ := HA.out.at_ hps
      obtain ⟨b', off', Bi, di, hB, hc', _, hr'⟩ := HB.out.at_ hps
      have C := Lib.hid (fun q => same_any Ai Bi ps.length ci ps.length di ps ps (w.drewN q) rfl rfl hbp.1 hbp.2 hbp.2 hr hr')
      rw [show same ps ps = true from decide_eq_true rfl] at C
      clear hr hr' hps hbp
      subst hA hB
      go_wp2_with fail
      go_quiet ((go_at_call 20; first | exact quiet_add_q (C.out _) | exact quiet_q (C.out _)))
      go_wp2_with fail
      go_roundw
      case rel => exact ⟨k + 1, _, by omega, by go_num, by first | rfl | (simp only [drewN_add]; rfl)⟩
      case measure => simp [intOf]; omega
    · go_wp2_with fail
      go_ret
      exact ⟨rfl, q, rfl⟩
end

section
open Go.RowKit
open Go.ChangeShapes Go.WideShapes Go.ChangeAt

/-- true, and nothing that was there has turned -/
def RetTrue (w : World) (e : Ending) (w' : World) : Prop := e = .returned (.bool true) ∧ Ext w w'
theorem retTrue {w w' : World} (h : Ext w w') : RetTrue w (.returned (.bool true)) w' := ⟨rfl, h⟩

def unsignedB : IntKind → Bool
  | .u8 | .u16 | .u32 | .u64 => true
  | _ => false

section
variable {H : Type} {enc : TypeId × Value → H} {P : Program}

theorem rd_of_cells {w : World} {a : Addr} {vs : List Value} (hc : ∀ i u, vs[i]? = some u → w.cell? (a.add i) = some u) : Rd w (some a) vs := by
  intro hne
  obtain ⟨b, off, spot⟩ := a
  have h0 : ∃ u, vs[0]? = some u := by
    cases vs with
    | nil => exact absurd rfl hne
    | cons v vs => exact ⟨v, rfl⟩
  obtain ⟨u, hu⟩ := h0
  have hc0 := hc 0 u hu
  have hspot : spot = none := by simpa [Addr.add] using World.cell?_spot hc0
  subst hspot
  refine ⟨b, off, rfl, fun j u hu => ?_⟩
  have := hc j u hu
  rwa [Addr.add_lit] at this

/-- what a reading says of a slice's size -/
def SizeOf (d : DataW H) (len cap : Nat) : Prop := (d = .nil ∧ len = 0 ∧ cap = 0) ∨ ∃ es sp : List (DataW H), d = .slice es sp ∧ es.length = len ∧ es.length + sp.length = cap

theorem open_intsL {t e : TypeId} {k : IntKind} {W : World} {a : Option Addr} {len cap : Nat} {d : DataW H} {p : List MemPlace} (ht : P.underlying t = some (.slice e)) (he : P.underlying e = some (.int k)) (hc : P.cellsOf e = 1)
    (h : DataW.Trod enc P W 0 (fun _ => true) true t (.slice a len cap) d p) :
    ∃ zs : List Int, zs.length = len ∧ (∀ z ∈ zs, (Lit.int k z).wf = true) ∧ Rd W a (zs.map (Value.int k)) ∧ len ≤ cap ∧ cap ≤ maxLen ∧ SizeOf d len cap := by
  obtain ⟨fuel, hf⟩ := h
  rcases open_ints ht he hc hf with ⟨hcs, hx⟩ | ⟨x, l, c, zs, hcs, _, hl, hm, hz, hx, hcell, hwz⟩
  · simp [Value.cells] at hcs
    obtain ⟨rfl, rfl, rfl⟩ := hcs
    simp only [Prod.mk.injEq] at hx
    exact ⟨[], rfl, by simp, Rd.nil _ _, Nat.le_refl _, Nat.zero_le _, .inl ⟨hx.1, rfl, rfl⟩⟩
  · simp [Value.cells] at hcs
    obtain ⟨rfl, rfl, rfl⟩ := hcs
    simp only [Prod.mk.injEq] at hx
    simp only [if_true] at hz
    have hz : zs.length = cap := hz
    refine ⟨zs.take len, by simp; omega, fun z hz => hwz z (List.mem_of_mem_take hz), ?_, hl, hm, .inr ⟨_, _, hx.1, by simp [lits]; omega, by simp [lits]; omega⟩⟩
    refine rd_of_cells fun i u hu => ?_
    rw [List.getElem?_map] at hu
    cases hi : (zs.take len)[i]? with
    | none => rw [hi] at hu; cases hu
    | some z =>
      rw [hi] at hu
      injection hu with hu
      subst hu
      have hil := (List.getElem?_eq_some_iff.1 hi).1
      have hil' : i < zs.length := by simp at hil; omega
      rw [hcell i hil']
      rw [List.getElem?_take] at hi
      split at hi
      · rw [List.getD_eq_getElem?_getD, hi]; rfl
      · cases hi

theorem open_nats {t e : TypeId} {k : IntKind} {W : World} {a : Option Addr} {len cap : Nat} {d : DataW H} {p : List MemPlace} (ht : P.underlying t = some (.slice e)) (he : P.underlying e = some (.int k)) (hc : P.cellsOf e = 1) (hk : unsignedB k = true)
    (h : DataW.Trod enc P W 0 (fun _ => true) true t (.slice a len cap) d p) :
    ∃ xs : List Nat, xs.length = len ∧ (∀ x ∈ xs, x < 2 ^ k.bits) ∧ Rd W a (vals k xs) ∧ len ≤ cap ∧ cap ≤ maxLen ∧ SizeOf d len cap := by
  obtain ⟨zs, hl, hw, hr, h1, h2, h3⟩ := open_intsL ht he hc h
  have hb : ∀ z ∈ zs, 0 ≤ z ∧ z.toNat < 2 ^ k.bits := by
    intro z hz
    have := hw z hz
    cases k <;> simp [unsignedB] at hk <;> simp [Lit.wf, IntKind.min, IntKind.max, IntKind.signed, IntKind.bits] at this ⊢ <;> omega
  refine ⟨zs.map Int.toNat, by simpa using hl, ?_, ?_, h1, h2, h3⟩
  · intro x hx
    obtain ⟨z, hz, rfl⟩ := List.mem_map.1 hx
    exact (hb z hz).2
  · have e : vals k (zs.map Int.toNat) = zs.map (Value.int k) := by
      unfold vals
      rw [List.map_map]
      refine List.map_congr_left fun z hz => ?_
      simp only [Function.comp, Int.toNat_of_nonneg (hb z hz).1]
    rw [e]
    exact hr

theorem reach_of {ts : List TypeId} {ds : List (DataW H)} (h : (DataW.weightsEach P ts ds).all (· ≤ reachBytes) = true) {j : Nat} {t e : TypeId} {d : DataW H} {len cap : Nat} (ht : ts[j]? = some t) (hd : ds[j]? = some d) (hu : P.underlying t = some (.slice e)) (hs : SizeOf d len cap) :
    cap * P.bytesOf e ≤ 140737488351232 := by
  rcases hs with ⟨_, _, rfl⟩ | ⟨es, sp, rfl, _, hc⟩
  · omega
  · have := sized_slice h ht hd hu
    rw [hc] at this
    exact this

theorem nat_of {k : IntKind} {a : Int} (hk : unsignedB k = true) (h : (Lit.int k a).wf = true) : ∃ n : Nat, a = (n : Int) ∧ n < 2 ^ k.bits := by
  refine ⟨a.toNat, ?_, ?_⟩
  · cases k <;> simp [unsignedB] at hk <;> simp [Lit.wf, IntKind.min, IntKind.max, IntKind.signed, IntKind.bits] at h ⊢ <;> omega
  · cases k <;> simp [unsignedB] at hk <;> simp [Lit.wf, IntKind.min, IntKind.max, IntKind.signed, IntKind.bits] at h ⊢ <;> omega
theorem i64_of {a : Int} (h : (Lit.int .i64 a).wf = true) : -9223372036854775808 ≤ a ∧ a ≤ 9223372036854775807 := by
  simpa [Lit.wf, IntKind.min, IntKind.max, IntKind.signed, IntKind.bits] using h
end
end

section
open Go.RowKit

theorem IsRdr.ext {w w' : World} {r : Nat} {S : Nat → Prop} {ws : List Nat} {cl : Bool} (h : IsRdr w r ws cl S) (hx : Ext w w') : IsRdr w' r ws cl S := by
  obtain ⟨A, n, c, h1, h2, h3, h4, h6⟩ := h
  exact ⟨A, n, c, blk_ext h1 hx, h2, h3, h4.ext hx, h6⟩
theorem IsRdr.more {w : World} {r : Nat} {S S' : Nat → Prop} {ws : List Nat} {cl : Bool} (h : IsRdr w r ws cl S) (hS : ∀ b, S b → S' b) : IsRdr w r ws cl S' := by
  obtain ⟨A, n, c, h1, h2, h3, h4, h6⟩ := h
  exact ⟨A, n, c, h1, h2, h3, h4, fun a ha => hS _ (h6 a ha)⟩
theorem IsRdr.grown {w w' : World} {r : Nat} {S : Nat → Prop} {ws : List Nat} {cl : Bool} (h : IsRdr w r ws cl S) {row : Option Nat} (hg : w.grownBy w' row) (hr : row ≠ some r) (hS : ∀ b, S b → row ≠ some b) : IsRdr w' r ws cl S := by
  obtain ⟨A, n, c, h1, h2, h3, h4, h6⟩ := h
  exact ⟨A, n, c, (hg.block r (blk_lt h1) (fun e => hr e.symm)).trans h1, h2, h3, h4.grown hg (fun a ha e => hS _ (h6 a ha) e), h6⟩
theorem feedR_ok {al : List Nat} {w : World} {r : Nat} {e : Ending} {w' : World} (h : FeedR al w r e w') {pss : List (List Nat)} {rest : List Nat} (hp : parse al = (pss, rest, false)) :
    ∃ S A n c, e = .returned (.tuple #[.slice A n c, .int .i64 0]) ∧ pss.length = n ∧ w.heap.size ≤ S ∧ PL w' S A n c pss ∧ IsRdr w' r rest false (fun b => w.heap.size ≤ b ∧ b < S) ∧ w.grownBy w' (some r) := by
  obtain ⟨S, A, n, c, h1, h2, h3, _, h5⟩ := h
  rw [hp] at h2 h5
  obtain ⟨h6, h7⟩ := h5 rfl
  exact ⟨S, A, n, c, h6, h2.1, h1.1, h2, h7, h3⟩

set_option maxHeartbeats 2000000 in
theorem frAwake (w : World) : Calls Try.prog 15 #[] w (RetTrue w) := by
  go_enter Try.func15, Try.ntmps15
  go_wp2_with fail
  refine (frEncode_ok _ _ 1 1 [97] (by omega) (by omega) rfl (rd_new _ _ _)).mono ?_
  rintro e w1 ⟨A1, c1, rfl, hown1, hy1⟩
  have hx1 : Ext w w1 := ((Ext.refl w).alloc _).trans hy1
  have hr1 := Lib.hid (Rd.of_own hown1)
  clear hown1 hy1
  go_wp2_with fail
  refine (frNew w1).mono ?_
  rintro e w2 ⟨rfl, hR2, hy2, hs2⟩
  have hx2 := hx1.trans hy2
  have hr2 := Lib.hid (hr1.out.ext hy2)
  have HR2 := Lib.hid hR2; clear hR2 hr1
  go_wp2_with fail
  refine (toE_q (same_any A1 _ 5 c1 5 5 [0, 0, 0, 1, 97] [0, 0, 0, 1, 97] _ rfl rfl (by omega) (by decide) (by decide) (hr2.out.alloc _) (rd_new _ _ _))).mono ?_
  rintro e w3 ⟨rfl, hy3⟩
  have hy3 : Ext w2 w3 := ((Ext.refl w2).alloc _).trans hy3
  have hx3 := hx2.trans hy3
  have HR3 := Lib.hid (HR2.out.ext hy3)
  have hws : w.heap.size ≤ w1.heap.size := hx1.size
  have hs3 : w2.heap.size ≤ w3.heap.size := hy3.size
  rw [show same [0, 0, 0, 1, 97] [0, 0, 0, 1, 97] = true by decide]
  clear hr2 HR2
  go_wp2_with fail
  refine (feed_open _ w1.heap.size _ [] _ 2 2 [0, 0] (HR3.out.ext ((Ext.refl w3).alloc _)) (by simp) rfl (by decide) (rd_new _ _ _) (by simp)).mono ?_
  intro e w4 hF
  obtain ⟨S4, A4, n4, c4, rfl, hn4, hS4, hP4, hR4, hg4⟩ := feedR_ok hF (pss := []) (rest := [0, 0]) (by decide +kernel)
  obtain rfl : n4 = 0 := hn4.symm
  clear hF hn4 hP4
  have hx4 : Ext w w4 := (hx3.alloc _).grown hg4 (fun k hk => by injection hk with hk; omega)
  have HR4 := Lib.hid hR4; clear hR4 hg4
  go_wp2_with fail
  refine (feed_open _ w1.heap.size _ [0, 0] _ 4 4 [0, 1, 97, 0] (HR4.out.ext ((Ext.refl w4).alloc _)) (by decide) rfl (by decide) (rd_new _ _ _) (by simp)).mono ?_
  intro e w5 hF
  obtain ⟨S5, A5, n5, c5, rfl, hn5, hS5, hP5, hR5, hg5⟩ := feedR_ok hF (pss := [[97]]) (rest := [0]) (by decide +kernel)
  obtain rfl : n5 = 1 := hn5.symm
  clear hF hn5
  have hx5 : Ext w w5 := (hx4.alloc _).grown hg5 (fun k hk => by injection hk with hk; omega)
  have HR5 := Lib.hid hR5; have HP5 := Lib.hid hP5; clear hR5 hg5 hP5 HR4 HR3
  go_wp2_with fail
  have hB : RdBB ((w5.alloc (.cells #[.int .u8 97] 5)).alloc (.cells #[.slice (some ⟨w5.heap.size, 0, none⟩) 1 1] 28)) (some ⟨w5.heap.size + 1, 0, none⟩) [[97]] := by
    refine ⟨[.slice (some ⟨w5.heap.size, 0, none⟩) 1 1], rfl, rd_mark2 w5 _ _ _ _, ?_⟩
    intro i ps hi
    obtain ⟨rfl, rfl⟩ : i = 0 ∧ ps = [97] := by
      rcases i with _ | i
      · simp at hi; exact ⟨rfl, hi.symm⟩
      · simp at hi
    exact ⟨_, 1, rfl, by decide, (rd_new w5 [.int .u8 97] _).alloc _⟩
  refine (toE_q (refSame_true _ A5 _ 1 c5 1 [[97]] rfl (by omega) (by decide) (HP5.out.rd.ext (((Ext.refl w5).alloc _).alloc _)) hB)).mono ?_
  rintro e w6 ⟨rfl, hy6⟩
  have hy6 : Ext w5 w6 := (((Ext.refl w5).alloc _).alloc _).trans hy6
  have hx6 := hx5.trans hy6
  have HR6 := Lib.hid (HR5.out.ext hy6)
  clear hB HP5 HR5
  go_wp2_with fail
  refine (waiting_any _ _ _ _ _ HR6.out).mono ?_
  rintro e w7 ⟨rfl, rfl⟩
  go_wp2_with fail
  go_ret
  exact retTrue hx6
end

section
open Go.RowKit

theorem headF_app {xs : List Nat} (ys : List Nat) (h : headF xs ≠ 0) : 4 ≤ xs.length ∧ headF (xs ++ ys) = headF xs := by
  unfold headF at h ⊢
  by_cases h4 : xs.length < 4
  · rw [if_pos h4] at h; exact absurd rfl h
  · refine ⟨by omega, ?_⟩
    rw [if_neg h4] at h ⊢
    have e1 : (xs ++ ys).take 4 = xs.take 4 := by rw [List.take_append_of_le_length (by omega)]
    have e2 : ¬ (xs ++ ys).length < 4 := by rw [List.length_append]; omega
    rw [if_neg e2, e1]
    by_cases h5 : numB (xs.take 4) = 0 ∨ 4096 < numB (xs.take 4)
    · rw [if_pos h5, if_pos h5]
    · rw [if_neg h5] at h ⊢
      rw [if_neg h5]
      by_cases h6 : xs.length - 4 < numB (xs.take 4)
      · rw [if_pos h6] at h; exact absurd rfl h
      · rw [if_neg h6, if_neg (by rw [List.length_append]; omega)]
theorem payF_app {xs : List Nat} (ys : List Nat) (h : headF xs = 2) : payF (xs ++ ys) = payF xs ∧ restF (xs ++ ys) = restF xs ++ ys := by
  have h1 := restF_lt h
  have e1 : (xs ++ ys).take 4 = xs.take 4 := by rw [List.take_append_of_le_length (by omega)]
  have e2 : (xs ++ ys).drop 4 = xs.drop 4 ++ ys := by rw [List.drop_append_of_le_length (by omega)]
  unfold payF restF
  rw [e1, e2]
  have hl : (xs.drop 4).length = xs.length - 4 := by rw [List.length_drop]
  exact ⟨by rw [List.take_append_of_le_length (by omega)], by rw [List.drop_append_of_le_length (by omega)]⟩
theorem parse_app : ∀ (n : Nat) (xs ys : List Nat), xs.length < n →
    ((parse xs).2.2 = true → (parse (xs ++ ys)).1 = (parse xs).1 ∧ (parse (xs ++ ys)).2.2 = true) ∧
    ((parse xs).2.2 = false → (parse (xs ++ ys)).1 = (parse xs).1 ++ (parse ((parse xs).2.1 ++ ys)).1 ∧ (parse (xs ++ ys)).2 = (parse ((parse xs).2.1 ++ ys)).2)
  | 0, _, _, h => by omega
  | n + 1, xs, ys, hn => by
    rcases headF_cases xs with h | h | h
    · rw [parse_wait h]
      exact ⟨(fun e => by cases e), fun _ => ⟨rfl, rfl⟩⟩
    · rw [parse_bad h]
      have h' := (headF_app (xs := xs) ys (by omega)).2
      rw [h] at h'
      rw [parse_bad h']
      exact ⟨fun _ => ⟨rfl, rfl⟩, fun e => by cases e⟩
    · have h1 := (restF_lt h).1
      have h' := (headF_app (xs := xs) ys (by omega)).2
      rw [h] at h'
      obtain ⟨e1, e2⟩ := payF_app ys h
      rw [parse_frame h, parse_frame h', e1, e2]
      have ih := parse_app n (restF xs) ys (by omega)
      refine ⟨fun e => ?_, fun e => ?_⟩
      · obtain ⟨k1, k2⟩ := ih.1 e
        exact ⟨by simp only [k1], k2⟩
      · obtain ⟨k1, k2⟩ := ih.2 e
        refine ⟨by simp only [k1, List.cons_append], ?_⟩
        simp only [k2]
theorem parse_small : ∀ (n : Nat) (xs : List Nat), xs.length < n →
    (parse xs).1.length + (parse xs).2.1.length ≤ xs.length ∧ (∀ x ∈ (parse xs).2.1, x ∈ xs) ∧ ∀ ps ∈ (parse xs).1, ps.length ≤ 4096 ∧ ∀ x ∈ ps, x ∈ xs
  | 0, _, h => by omega
  | n + 1, xs, hn => by
    rcases headF_cases xs with h | h | h
    · rw [parse_wait h]; simp
    · rw [parse_bad h]; simp
    · have h1 := restF_lt h
      rw [parse_frame h]
      obtain ⟨i1, i2, i3⟩ := parse_small n (restF xs) (by omega)
      have hm : ∀ x ∈ restF xs, x ∈ xs := fun x hx => List.mem_of_mem_drop (List.mem_of_mem_drop hx)
      refine ⟨by simp only [List.length_cons]; omega, fun x hx => hm x (i2 x hx), fun ps hp => ?_⟩
      rcases List.mem_cons.1 hp with rfl | hp
      · exact ⟨by omega, fun x hx => List.mem_of_mem_drop (List.mem_of_mem_take hx)⟩
      · exact ⟨(i3 ps hp).1, fun x hx => hm x ((i3 ps hp).2 x hx)⟩
def endF (ws : List Nat) : Int := if (parse ws).2.2 = true then 12 else 0
def leftF (ws : List Nat) : List Nat := if (parse ws).2.2 = true then [] else (parse ws).2.1
theorem leftF_small (ws : List Nat) : (leftF ws).length ≤ ws.length ∧ ∀ x ∈ leftF ws, x ∈ ws := by
  obtain ⟨h1, h2, _⟩ := parse_small (ws.length + 1) ws (by omega)
  unfold leftF
  split
  · simp
  · exact ⟨by omega, h2⟩
theorem parse_nil : parse [] = ([], [], false) := parse_wait rfl
/-- a step of a stream that is whole still -/
theorem parse_step {xs ys : List Nat} (h : (parse xs).2.2 = false) : (parse (xs ++ ys)).1 = (parse xs).1 ++ (parse (leftF xs ++ ys)).1 ∧ endF (xs ++ ys) = endF (leftF xs ++ ys) ∧ leftF (xs ++ ys) = leftF (leftF xs ++ ys) ∧ (parse (xs ++ ys)).2.2 = (parse (leftF xs ++ ys)).2.2 := by
  obtain ⟨h1, h2⟩ := (parse_app (xs.length + 1) xs ys (by omega)).2 h
  have e : leftF xs = (parse xs).2.1 := by unfold leftF; rw [if_neg (by rw [h]; simp)]
  rw [e]
  unfold endF leftF
  rw [h1, h2]
  exact ⟨rfl, rfl, rfl, rfl⟩
/-- and of one that is broken -/
theorem parse_stop {xs ys : List Nat} (h : (parse xs).2.2 = true) : (parse (xs ++ ys)).1 = (parse xs).1 ∧ endF (xs ++ ys) = 12 ∧ leftF (xs ++ ys) = [] ∧ (parse (xs ++ ys)).2.2 = true := by
  obtain ⟨h1, h2⟩ := (parse_app (xs.length + 1) xs ys (by omega)).1 h
  unfold endF leftF
  rw [h1, h2]
  exact ⟨rfl, rfl, rfl, rfl⟩
end

section
open Go.RowKit

/-- a cut from k to h, wherever it stands -/
theorem slice_mid_any {P : Program} {t e : TypeId} (ht : P.underlying t = some (.slice e)) (hz : ∀ u : World, (sizeOf e).run P u = .ok 1 u) {A : Option Addr} {n c m d : Nat} (k h : Nat) {ki hi : Int} (hki : ki = (k : Int)) (hhi : hi = (h : Int)) (hhn : h ≤ n) (hnc : n ≤ c) (hm : h = m + k) (hd : c = d + k) :
    ∃ A' : Option Addr, (∀ u : World, (Instr.slice t (.slice A n c) (some (.int .i64 ki)) (some (.int .i64 hi)) none).run P u = .ok (.slice A' m d) u) ∧
      (∀ (w : World) (vs : List Value), vs.length = n → Rd w A vs → Rd w A' ((vs.drop k).take m)) := by
  subst hki hhi
  have he : P.elem t = e := by simp [Program.elem, ht]
  refine ⟨if c = k then A else A.map (·.add k), fun u => ?_, fun w vs hl hr hne => ?_⟩
  · rw [run_slice_lh (P := P) u t A n c (by rw [he]; exact ht) .i64 .i64 (k : Int) (h : Int) (by omega) (by omega) (by omega), he, hz]
    simp only [Result.andThen, sliced, Int.toNat_natCast, Nat.mul_one]
    congr 2 <;> omega
  · have hvn : vs ≠ [] := by rintro rfl; simp at hne
    obtain ⟨b, off, rfl, hc⟩ := hr hvn
    have hck : ¬ c = k := by
      intro h
      apply hne
      rw [List.drop_of_length_le (by omega)]
      simp
    rw [if_neg hck]
    refine ⟨b, off + k, by simp [Addr.add_lit], fun j u hu => ?_⟩
    rw [Nat.add_assoc]
    refine hc (k + j) u ?_
    rw [List.getElem?_take] at hu
    split at hu
    · rw [← hu, List.getElem?_drop]
    · cases hu

theorem feedR_any {al : List Nat} {w : World} {r : Nat} {e : Ending} {w' : World} (h : FeedR al w r e w') :
    ∃ S A n c, e = .returned (.tuple #[.slice A n c, .int .i64 (endF al)]) ∧ (parse al).1.length = n ∧ (w.heap.size ≤ S ∧ S ≤ w'.heap.size) ∧ PL w' S A n c (parse al).1 ∧ IsRdr w' r (leftF al) (parse al).2.2 (fun b => w.heap.size ≤ b ∧ b < S) ∧ w.grownBy w' (some r) := by
  obtain ⟨S, A, n, c, h1, h2, h3, h4, h5⟩ := h
  refine ⟨S, A, n, c, ?_, h2.1, h1, h2, ?_, h3⟩
  · unfold endF
    by_cases hb : (parse al).2.2 = true
    · rw [if_pos hb]; exact (h4 hb).1
    · rw [if_neg hb]; exact (h5 (by simpa using hb)).1
  · unfold leftF
    by_cases hb : (parse al).2.2 = true
    · rw [if_pos hb, hb]; exact (h4 hb).2
    · rw [if_neg hb, show (parse al).2.2 = false by simpa using hb]; exact (h5 (by simpa using hb)).2

/-- a list of payloads more -/
theorem PLv.app {w : World} {base lim S : Nat} {A A' : Option Addr} {n c n' c' : Nat} {pss qss : List (List Nat)} {vs : List Value} (h : PLv w base lim A n c pss vs) (h' : PL w S A' n' c' qss) (hlim : lim ≤ S) (hbase : base ≤ lim) (hlw : lim ≤ w.heap.size) :
    ∃ vs', vs'.length = n' ∧ Rd w A' vs' ∧ (∀ u ∈ vs', u.oneCell' = true) ∧
      ∀ (w2 : World) (B' : Option Addr) (cb' : Nat), w2.ownsRow base 28 1 (.slice B' (n + n') cb') (n + n') (vs ++ vs') → w.grownBy w2 (Value.slice A n c).ownBlock → PL w2 base B' (n + n') cb' (pss ++ qss) := by
  obtain ⟨hl, gs, h1, h2, h3, h4, h5⟩ := h
  obtain ⟨hl', vs', gs', k1, k2, k3, k4, k5⟩ := h'
  have hvl : vs.length = n := by have := h1.1; omega
  have hvl' : vs'.length = n' := by have := k1.1; omega
  have hge : ∀ b ∈ gs', S ≤ b := by
    intro b hb
    obtain ⟨i, hi⟩ := List.getElem?_of_mem hb
    have hin : i < qss.length := by have := (List.getElem?_eq_some_iff.1 hi).1; omega
    obtain ⟨g, ci, q1, _, q3⟩ := k5 i _ (List.getElem?_eq_getElem hin)
    rw [hi] at q1
    injection q1 with q1
    subst q1
    exact own_ge q3 b rfl
  refine ⟨vs', hvl', Rd.of_own k1, fun u hu => ?_, fun w2 B' cb' ho hg => ?_⟩
  · obtain ⟨i, hi⟩ := List.getElem?_of_mem hu
    have hin : i < qss.length := by have := (List.getElem?_eq_some_iff.1 hi).1; omega
    obtain ⟨g, ci, _, q2, _⟩ := k5 i _ (List.getElem?_eq_getElem hin)
    rw [hi] at q2
    injection q2 with q2
    subst q2
    rfl
  · refine ⟨by simp [hl, hl'], vs ++ vs', gs ++ gs', ho, by simp [h2, k2], ?_, ?_, ?_⟩
    · rw [List.pairwise_append]
      exact ⟨h3, k3, fun a ha b hb => by have := h4 a ha; have := hge b hb; omega⟩
    · intro a ha
      rcases List.mem_append.1 ha with ha | ha
      · have := h4 a ha; have := hg.size; omega
      · have := k4 a ha; have := hg.size; omega
    · intro i qs hi
      by_cases hin : i < pss.length
      · rw [List.getElem?_append_left hin] at hi
        obtain ⟨g', ci, q1, q2, q3⟩ := h5 i qs hi
        exact ⟨g', ci, by rw [List.getElem?_append_left (by omega)]; exact q1, by rw [List.getElem?_append_left (by omega)]; exact q2, q3.kept hg (own_types q3 h1 (by decide))⟩
      · rw [List.getElem?_append_right (by omega)] at hi
        obtain ⟨g', ci, q1, q2, q3⟩ := k5 _ qs hi
        exact ⟨g', ci, by rw [List.getElem?_append_right (by omega), h2, ← hl]; exact q1, by rw [List.getElem?_append_right (by omega), hvl, ← hl]; exact q2, own_base (q3.kept hg (own_types q3 h1 (by decide))) (by omega)⟩
theorem IsRdr.gb {w w' : World} {r : Nat} {ws : List Nat} {cl : Bool} {S M : Nat → Prop} (h : IsRdr w r ws cl S) (g : GB w w' M) (hr : ¬ M r) (hs : ∀ b, S b → ¬ M b) : IsRdr w' r ws cl S := by
  obtain ⟨A, n, c, h1, h2, h3, h4, h5⟩ := h
  exact ⟨A, n, c, g.blk h1 hr, h2, h3, g.rd h4 (fun p hp => hs _ (h5 p hp)), h5⟩
/-- a row of bytes of one's own -/
def ByteRow (w : World) (base : Nat) (v : Value) (n : Nat) : Prop := ∃ ys : List Nat, (∀ y ∈ ys, y < 256) ∧ w.ownsRow base 5 1 v n (vals .u8 ys)
theorem ByteRow.elem {w : World} {base n c g m : Nat} (h : ByteRow w base (.slice (some ⟨g, 0, none⟩) n c) n) (hm : m < n) : ∃ y : Nat, y < 256 ∧ w.cell? ⟨g, m, none⟩ = some (.int .u8 (y : Int)) ∧ w.frozen? ⟨g, m, none⟩ = false := by
  obtain ⟨ys, hy, h⟩ := h
  have hl := h.1
  rw [vals_len] at hl
  have hlt : m < ys.length := by omega
  refine ⟨ys[m], hy _ (List.getElem_mem hlt), ?_, h.frozenAt m⟩
  rw [World.ownsRow.cellAt h m (by omega)]
  exact vals_get (List.getElem?_eq_getElem hlt)
theorem ByteRow.set {w : World} {base n c g : Nat} (h : ByteRow w base (.slice (some ⟨g, 0, none⟩) n c) n) (m z : Nat) (hz : z < 256) : ByteRow (w.setCell ⟨g, m, none⟩ (.int .u8 (z : Int))) base (.slice (some ⟨g, 0, none⟩) n c) n := by
  obtain ⟨ys, hy, h⟩ := h
  refine ⟨ys.set m z, fun y hy' => ?_, by rw [vals_set]; exact (h.stored m _).1⟩
  rcases List.mem_or_eq_of_mem_set hy' with h9 | h9
  · exact hy y h9
  · rw [h9]; exact hz
theorem xor_u8 (a k : Nat) (ha : a < 256) (hk : k < 256) : ∃ z : Nat, z < 256 ∧ bits .xor .u8 (a : Int) (k : Int) = (z : Int) :=
  ⟨a ^^^ k, Nat.xor_lt_two_pow (n := 8) ha hk, Go.u8_xor_nat a k ha hk⟩
end

section
open Go.RowKit

theorem len4_len (n : Nat) : (len4 n).length = 4 := rfl
theorem len4_lt (n : Nat) : ∀ x ∈ len4 n, x < 256 := by
  intro x hx
  simp only [len4, List.mem_cons, List.not_mem_nil, or_false] at hx
  rcases hx with rfl | rfl | rfl | rfl <;> exact Nat.mod_lt _ (by omega)
theorem take4 (n : Nat) (ys : List Nat) : (len4 n ++ ys).take 4 = len4 n := by
  rw [List.take_append_of_le_length (by rw [len4_len]; omega), List.take_of_length_le (by rw [len4_len]; omega)]
theorem drop4 (n : Nat) (ys : List Nat) : (len4 n ++ ys).drop 4 = ys := by
  rw [List.drop_append_of_le_length (by rw [len4_len]; omega), List.drop_of_length_le (by rw [len4_len]; omega), List.nil_append]
/-- a frame at the head -/
theorem parse_enc (p ys : List Nat) (h0 : 1 ≤ p.length) (h : p.length ≤ 4096) : parse (len4 p.length ++ (p ++ ys)) = (p :: (parse ys).1, (parse ys).2.1, (parse ys).2.2) := by
  have hn := len4_num p.length (by omega)
  have e0 : (len4 p.length ++ (p ++ ys)).length = 4 + (p.length + ys.length) := by rw [List.length_append, len4_len, List.length_append]
  have hh : headF (len4 p.length ++ (p ++ ys)) = 2 := by
    unfold headF
    rw [e0, take4, hn, if_neg (by omega), if_neg (by omega), if_neg (by omega)]
  have hp : payF (len4 p.length ++ (p ++ ys)) = p := by
    unfold payF
    rw [take4, drop4, hn, List.take_append_of_le_length (by omega), List.take_of_length_le (by omega)]
  have hr : restF (len4 p.length ++ (p ++ ys)) = ys := by
    unfold restF
    rw [take4, drop4, hn, List.drop_append_of_le_length (by omega), List.drop_of_length_le (by omega), List.nil_append]
  rw [parse_frame hh, hp, hr]
/-- a broken length at the head -/
theorem parse_broken (b : Nat) (ys : List Nat) (hb : b < 4294967296) (h : b = 0 ∨ 4096 < b) : parse (len4 b ++ ys) = ([], len4 b ++ ys, true) := by
  apply parse_bad
  unfold headF
  rw [take4, len4_num b hb, if_neg (by rw [List.length_append, len4_len]; omega), if_pos h]
def flatF (qs : List (List Nat)) : List Nat := qs.flatMap fun p => len4 p.length ++ p
theorem flatF_snoc (qs : List (List Nat)) (p : List Nat) : flatF (qs ++ [p]) = flatF qs ++ (len4 p.length ++ p) := by simp [flatF, List.flatMap_append]
theorem parse_flat (qs : List (List Nat)) (h : ∀ p ∈ qs, 1 ≤ p.length ∧ p.length ≤ 4096) : parse (flatF qs) = (qs, [], false) := by
  induction qs with
  | nil => exact parse_nil
  | cons p qs ih =>
    have hp := h p List.mem_cons_self
    have e : flatF (p :: qs) = len4 p.length ++ (p ++ flatF qs) := by simp [flatF, List.append_assoc]
    rw [e, parse_enc p _ hp.1 hp.2, ih (fun q hq => h q (List.mem_cons_of_mem _ hq))]
theorem flatF_small (qs : List (List Nat)) (h : ∀ p ∈ qs, p.length ≤ 4096) : (flatF qs).length ≤ 4100 * qs.length := by
  induction qs with
  | nil => simp [flatF]
  | cons p qs ih =>
    have h1 := ih (fun q hq => h q (List.mem_cons_of_mem _ hq))
    have h2 := h p List.mem_cons_self
    have e : (flatF (p :: qs)).length = 4 + p.length + (flatF qs).length := by
      show ((len4 p.length ++ p) ++ flatF qs).length = _
      rw [List.length_append, List.length_append, len4_len]
    rw [e, List.length_cons]; omega
theorem flatF_lt (qs : List (List Nat)) (h : ∀ p ∈ qs, ∀ x ∈ p, x < 256) : ∀ x ∈ flatF qs, x < 256 := by
  intro x hx
  obtain ⟨p, hp, hx⟩ := List.mem_flatMap.1 hx
  rcases List.mem_append.1 hx with hx | hx
  · exact len4_lt _ x hx
  · exact h p hp x hx
end
end Go.Proofs.Ythkdjjfnmlemdaa
