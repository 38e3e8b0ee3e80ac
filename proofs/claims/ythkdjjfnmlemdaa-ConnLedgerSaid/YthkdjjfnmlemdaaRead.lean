/- wire.read with what it defers; wire.ReadRequest. -/
import Derived.Test.YthkdjjfnmlemdaaCall4
namespace Go.Proofs.Ythkdjjfnmlemdaa
open Go.RowKit

set_option maxRecDepth 100000 in
theorem rundo_wrong (w : World) (ec : Nat) (v : Value) (older : List PanicEntry) (he : w.heap[ec]? = some (.cells #[v] 33 (0, 0))) :
    CallsD Try.prog 102 #[.pointer (some ⟨ec, 0, none⟩)] (.panicking ({ v := .iface 153 (.agg #[]), recovered := false } :: older)) w fun e u' w' =>
      e = .returned (.tuple #[]) ∧ u' = .panicking ({ v := .iface 153 (.agg #[]), recovered := true } :: older) ∧ (w.alloc (.cells #[] 153)).setCell ⟨ec, 0, none⟩ (.int .i64 3) = w' := by
  refine callsD_of_wpS Try.func102 rfl fun c₀ cs hu => ?_
  have hta : ∀ u : World, (Instr.typeAssert (.iface 153 (.agg #[])) 20 153 true).run Try.prog u = .ok (.tuple #[.agg #[], .bool true]) u := fun _ => by kernel_rfl
  have p3 := cell_past (blk_cell he 0); have p4 := fz_past he 0
  have He := Lib.hid he; clear he
  simp only [Try.ntmps102, List.size_toArray, List.length_cons, List.length_nil, Nat.reduceAdd, Nat.reduceSub, Array.replicate_succ, Array.replicate_zero, List.push_toArray, List.append_toArray, List.nil_append, List.cons_append]
  apply wpS_seq
  apply wpS_region
  simp [wpOpsS, go_sem, recoverD, hu, Exit.thenS]
  refine wpS_of_wp ?_
  refine wp_hideQ fun Q hQ => ?_
  have Hu := Lib.hid hu; clear hu
  go_wp2_with fail
  have hu := Hu.out
  exact ⟨rfl, _, rfl, _, results_none rfl _ _ _, rfl, rfl, rfl⟩
theorem rundo_idle (w : World) (p : Value) :
    CallsD Try.prog 102 #[p] .returning w fun e u' w' => e = .returned (.tuple #[]) ∧ u' = .returning ∧ w = w' := by
  refine callsD_of_wpS Try.func102 rfl fun c₀ cs hu => ?_
  simp only [Try.ntmps102, List.size_toArray, List.length_cons, List.length_nil, Nat.reduceAdd, Nat.reduceSub, Array.replicate_succ, Array.replicate_zero, List.push_toArray, List.append_toArray, List.nil_append, List.cons_append]
  apply wpS_seq
  apply wpS_region
  simp [wpOpsS, go_sem, recoverD, hu, Exit.thenS]
  refine wpS_of_wp ?_
  refine wp_hideQ fun Q hQ => ?_
  have Hu := Lib.hid hu; clear hu
  go_wp2_with fail
  have hu := Hu.out
  exact ⟨rfl, .returning, by cases c₀; simp at hu; subst hu; rfl, _, results_none rfl _ _ _, rfl, rfl, rfl⟩
theorem res_errno {tmps : Array Value} {w : World} {ec : Nat} {v : Value} {t : TypeId} (hp : tmps.getD 4 undef = .pointer (some ⟨ec, 0, none⟩)) (hc : w.heap[ec]? = some (.cells #[v] t (0, 0))) :
    (results Try.f76 tmps).run Try.prog w = .ok v w := by
  have h0 := blk_cell hc 0
  have hp' : tmps[4]?.getD undef = .pointer (some ⟨ec, 0, none⟩) := by simpa using hp
  simp [results, hp', asAddr, loadVar, h0, go_sem]
theorem read_long (w : World) (A : Option Addr) (n c : Nat) (f : Value) (hn : 4096 < n) :
    Calls Try.prog 76 #[.slice A n c, f] w (RetE (.int .i64 2) w) := by
  go_enter_defers Try.func76, Try.ntmps76
  go_wp2_with fail
  refine ⟨_, res_errno rfl (heap_alloc_new w _), ?_⟩
  exact ⟨rfl, (Ext.refl w).alloc _⟩

/-- the closure's way: it takes what it needs off the reader r, and lays it into block g -/
def ByR (t : TypeId) (cs : Option Addr → Nat → Array Value) (xs rest : List Nat) (r S g : Nat) (W : World) (e : Ending) (w' : World) : Prop :=
  ∃ A c wm, e = .returned (.tuple #[]) ∧ W.grownBy wm (some r) ∧ wm.grownBy w' (some g) ∧ w'.heap[g]? = some (.cells (cs A c) t (0, 0)) ∧ w'.ownsRow W.heap.size 5 1 (.slice A xs.length c) xs.length (vals .u8 xs) ∧ IsWs w' r S rest
theorem blk_far2 (w : World) (o o' : Obj) (g : Nat) (hg : g < w.heap.size) : ((w.alloc o).alloc o').heap[g]? = w.heap[g]? :=
  (Below.heap_alloc (w.alloc o) o' g (by simp; omega)).trans (Below.heap_alloc w o g hg)
theorem grown_new2 {w W wm w2 : World} {r g : Nat} (h : Ext w W) (h1 : W.grownBy wm (some r)) (h2 : wm.grownBy w2 (some g)) (hr : w.heap.size ≤ r) : w.grownBy w2 (some g) :=
  World.grown_trans (grown_new (grown_none h (some g)) h1 hr) h2
set_option maxHeartbeats 1000000 in
set_option maxRecDepth 100000 in
theorem read_goodQ (w : World) (A0 : Option Addr) (n c0 g : Nat) (t : TypeId) (cs : Option Addr → Nat → Array Value) (ys xs : List Nat) (hl : ys.length = n) (hn : n ≤ 4096) (hnc : n ≤ c0) (hr : Rd w A0 (vals .u8 ys)) (hg : g < w.heap.size) (S : Nat) (hSw : S ≤ w.heap.size) (hA0 : ys ≠ [] → ∀ a, A0 = some a → a.block < S)
    (HC0 : ∀ W r, IsWs W r S ys → w.heap.size ≤ r → W.heap[g]? = w.heap[g]? → w.heap.size ≤ W.heap.size → Calls Try.prog 77 #[.pointer (some ⟨r, 0, none⟩), .pointer (some ⟨g, 0, none⟩)] W (ByR t cs xs [] r S g W)) :
    Calls Try.prog 76 #[.slice A0 n c0, .func (.func 77) #[] #[.pointer (some ⟨g, 0, none⟩)]] w fun e w' => ∃ A c, e = .returned (.int .i64 0) ∧ w.grownBy w' (some g) ∧ w'.heap[g]? = some (.cells (cs A c) t (0, 0)) ∧ w'.ownsRow w.heap.size 5 1 (.slice A xs.length c) xs.length (vals .u8 xs) := by
  have hmf : ∀ (fn : Fn) (first cap : Array Value) (w : World), (Instr.makeFunc fn first cap).run Try.prog w = .ok (.func fn first cap) w := fun _ _ _ _ => rfl
  have HC := Lib.hid HC0; clear HC0
  have hws : ∀ o o' : Obj, Rd ((w.alloc o).alloc o') A0 (vals .u8 ys) := fun o o' => (hr.alloc o).alloc o'
  have hlt : ∀ a, A0 = some a → ys ≠ [] → a.block < S := fun a ha hne => hA0 hne a ha
  have Hws := Lib.hid hws; have Hlt := Lib.hid hlt; have Hl := Lib.hid hl
  have Hg := Lib.hid (fun o o' : Obj => (blk_far2 w o o' g hg)); clear hws hlt hl hr hA0
  go_enter_defers Try.func76, Try.ntmps76
  go_wp2_with fail
  obtain ⟨W, hW⟩ : ∃ W, (w.alloc (.cells #[.int .i64 0] 33)).alloc (.cells #[.slice A0 n c0] 155) = W := ⟨_, rfl⟩
  have hsW : w.heap.size + 2 = W.heap.size := by rw [← hW]; simp
  have hIW : IsWs W (w.heap.size + 1) S ys := by
    rw [← hW]
    refine ⟨A0, c0, ?_, by rw [Hl.out]; exact hnc, Hws.out _ _, fun hne a ha => ?_⟩
    · rw [Hl.out]; exact blk_newk _ _ (by simp)
    · have := Hlt.out a ha hne; exact ⟨by omega, this⟩
  have hEW : W.heap[w.heap.size]? = some (.cells #[.int .i64 0] 33 (0, 0)) := by rw [← hW]; exact blk_past (blk_new w _) _
  have hgW : W.heap[g]? = w.heap[g]? := by rw [← hW]; exact Hg.out _ _
  have hGW : Ext w W := by rw [← hW]; exact ((Ext.refl w).alloc _).alloc _
  have C := Lib.hid (HC.out W (w.heap.size + 1) hIW (by omega) hgW (by omega))
  have HE := Lib.hid hEW; have HGW := Lib.hid hGW
  rw [hW]
  clear hW hIW hEW hgW hGW HC Hws Hg
  refine C.out.mono ?_
  rintro e w2 ⟨A, c, wm, rfl, hg1, hg2, hcs, ho, hS⟩
  obtain ⟨A2, c2, hw2, _, _, _⟩ := hS
  have h0 : w2.cell? ⟨w.heap.size + 1, 0, none⟩ = some (.slice A2 0 c2) := blk_cell hw2 0
  have HE2 := Lib.hid (blk_grown (blk_grown HE.out hg1 (by omega)) hg2 (by omega))
  have HG2 := Lib.hid (grown_new2 HGW.out hg1 hg2 (by omega))
  have Hcs := Lib.hid hcs; have Ho := Lib.hid ho
  have hs2 : W.heap.size ≤ w2.heap.size := Nat.le_trans hg1.size hg2.size
  clear hg1 hg2 hcs ho hw2 C HE HGW
  go_wp2_with fail
  refine (must_ok _ _).mono ?_
  rintro e w' ⟨rfl, rfl⟩
  have e0 := blk_cell HE2.out 0; have f0 := blk_frozen HE2.out 0
  go_wp2_with fail
  refine leaves_cons (f := 102) (args := #[.pointer (some ⟨w.heap.size, 0, none⟩)]) (by simp) (by simp [go_sem]) ?_
  refine (rundo_idle _ _).mono ?_
  rintro e u' w'' ⟨rfl, rfl, rfl⟩
  have hG := grown_set w2 w.heap.size 0 (.int .i64 0)
  have hoo : w2.ownsRow (w.heap.size + 1) 5 1 (.slice A xs.length c) xs.length (vals .u8 xs) := own_base Ho.out (by omega)
  exact ⟨_, res_errno rfl (blk_set HE2.out 0 _), A, c, rfl, grown_setNew HG2.out (Nat.le_refl _) 0 _, blk_grown' Hcs.out hG (by omega), own_base (hoo.kept hG (own_ne hoo (by omega))) (by omega)⟩
set_option maxHeartbeats 1000000 in
set_option maxRecDepth 100000 in
theorem read_moreQ (w : World) (A0 : Option Addr) (n c0 g : Nat) (t : TypeId) (cs : Option Addr → Nat → Array Value) (ys xs rest : List Nat) (hrest : rest ≠ []) (hl : ys.length = n) (hn : n ≤ 4096) (hnc : n ≤ c0) (hr : Rd w A0 (vals .u8 ys)) (hg : g < w.heap.size) (S : Nat) (hSw : S ≤ w.heap.size) (hA0 : ys ≠ [] → ∀ a, A0 = some a → a.block < S)
    (HC0 : ∀ W r, IsWs W r S ys → w.heap.size ≤ r → W.heap[g]? = w.heap[g]? → w.heap.size ≤ W.heap.size → Calls Try.prog 77 #[.pointer (some ⟨r, 0, none⟩), .pointer (some ⟨g, 0, none⟩)] W (ByR t cs xs rest r S g W)) :
    Calls Try.prog 76 #[.slice A0 n c0, .func (.func 77) #[] #[.pointer (some ⟨g, 0, none⟩)]] w fun e w' => e = .returned (.int .i64 3) ∧ w.grownBy w' (some g) := by
  have hmf : ∀ (fn : Fn) (first cap : Array Value) (w : World), (Instr.makeFunc fn first cap).run Try.prog w = .ok (.func fn first cap) w := fun _ _ _ _ => rfl
  have HC := Lib.hid HC0; clear HC0
  have hws : ∀ o o' : Obj, Rd ((w.alloc o).alloc o') A0 (vals .u8 ys) := fun o o' => (hr.alloc o).alloc o'
  have hlt : ∀ a, A0 = some a → ys ≠ [] → a.block < S := fun a ha hne => hA0 hne a ha
  have Hws := Lib.hid hws; have Hlt := Lib.hid hlt; have Hl := Lib.hid hl
  have Hg := Lib.hid (fun o o' : Obj => (blk_far2 w o o' g hg)); clear hws hlt hl hr hA0
  go_enter_defers Try.func76, Try.ntmps76
  go_wp2_with fail
  obtain ⟨W, hW⟩ : ∃ W, (w.alloc (.cells #[.int .i64 0] 33)).alloc (.cells #[.slice A0 n c0] 155) = W := ⟨_, rfl⟩
  have hsW : w.heap.size + 2 = W.heap.size := by rw [← hW]; simp
  have hIW : IsWs W (w.heap.size + 1) S ys := by
    rw [← hW]
    refine ⟨A0, c0, ?_, by rw [Hl.out]; exact hnc, Hws.out _ _, fun hne a ha => ?_⟩
    · rw [Hl.out]; exact blk_newk _ _ (by simp)
    · have := Hlt.out a ha hne; exact ⟨by omega, this⟩
  have hEW : W.heap[w.heap.size]? = some (.cells #[.int .i64 0] 33 (0, 0)) := by rw [← hW]; exact blk_past (blk_new w _) _
  have hgW : W.heap[g]? = w.heap[g]? := by rw [← hW]; exact Hg.out _ _
  have hGW : Ext w W := by rw [← hW]; exact ((Ext.refl w).alloc _).alloc _
  have C := Lib.hid (HC.out W (w.heap.size + 1) hIW (by omega) hgW (by omega))
  have HE := Lib.hid hEW; have HGW := Lib.hid hGW
  rw [hW]
  clear hW hIW hEW hgW hGW HC Hws Hg
  refine C.out.mono ?_
  rintro e w2 ⟨A, c, wm, rfl, hg1, hg2, hcs, ho, hS⟩
  obtain ⟨A2, c2, hw2, _, _, _⟩ := hS
  have h0 : w2.cell? ⟨w.heap.size + 1, 0, none⟩ = some (.slice A2 rest.length c2) := blk_cell hw2 0
  have hlen : ((rest.length : Int) == 0) = false := by
    rw [beq_eq_false_iff_ne]
    have := List.length_pos_iff.2 hrest
    omega
  have HE2 := Lib.hid (blk_grown (blk_grown HE.out hg1 (by omega)) hg2 (by omega))
  have HG2 := Lib.hid (grown_new2 HGW.out hg1 hg2 (by omega))
  clear hg1 hg2 hcs ho hw2 C HE HGW
  go_wp2_with fail
  refine (must_no _ _).mono ?_
  rintro e w' ⟨rfl, rfl⟩
  go_wp2_with fail
  refine leaves_cons (f := 102) (args := #[.pointer (some ⟨w.heap.size, 0, none⟩)]) (by simp) (by simp [go_sem]) ?_
  refine (rundo_wrong _ w.heap.size _ [] HE2.out).mono ?_
  rintro e u' w'' ⟨rfl, rfl, rfl⟩
  exact ⟨_, res_errno rfl (blk_set (blk_past HE2.out _) 0 _), rfl, grown_setNew (grown_alloc HG2.out _) (Nat.le_refl _) 0 _⟩
set_option maxHeartbeats 1000000 in
set_option maxRecDepth 100000 in
theorem read_wrongQ (w : World) (A0 : Option Addr) (n c0 g : Nat) (ys : List Nat) (hl : ys.length = n) (hn : n ≤ 4096) (hnc : n ≤ c0) (hr : Rd w A0 (vals .u8 ys)) (hg : g < w.heap.size) (S : Nat) (hSw : S ≤ w.heap.size) (hA0 : ys ≠ [] → ∀ a, A0 = some a → a.block < S)
    (HC0 : ∀ W r, IsWs W r S ys → w.heap.size ≤ r → W.heap[g]? = w.heap[g]? → w.heap.size ≤ W.heap.size → Calls Try.prog 77 #[.pointer (some ⟨r, 0, none⟩), .pointer (some ⟨g, 0, none⟩)] W (WrongR W r)) :
    Calls Try.prog 76 #[.slice A0 n c0, .func (.func 77) #[] #[.pointer (some ⟨g, 0, none⟩)]] w fun e w' => e = .returned (.int .i64 3) ∧ w.grownBy w' (some g) := by
  have hmf : ∀ (fn : Fn) (first cap : Array Value) (w : World), (Instr.makeFunc fn first cap).run Try.prog w = .ok (.func fn first cap) w := fun _ _ _ _ => rfl
  have HC := Lib.hid HC0; clear HC0
  have hws : ∀ o o' : Obj, Rd ((w.alloc o).alloc o') A0 (vals .u8 ys) := fun o o' => (hr.alloc o).alloc o'
  have hlt : ∀ a, A0 = some a → ys ≠ [] → a.block < S := fun a ha hne => hA0 hne a ha
  have Hws := Lib.hid hws; have Hlt := Lib.hid hlt; have Hl := Lib.hid hl
  have Hg := Lib.hid (fun o o' : Obj => (blk_far2 w o o' g hg)); clear hws hlt hl hr hA0
  go_enter_defers Try.func76, Try.ntmps76
  go_wp2_with fail
  obtain ⟨W, hW⟩ : ∃ W, (w.alloc (.cells #[.int .i64 0] 33)).alloc (.cells #[.slice A0 n c0] 155) = W := ⟨_, rfl⟩
  have hsW : w.heap.size + 2 = W.heap.size := by rw [← hW]; simp
  have hIW : IsWs W (w.heap.size + 1) S ys := by
    rw [← hW]
    refine ⟨A0, c0, ?_, by rw [Hl.out]; exact hnc, Hws.out _ _, fun hne a ha => ?_⟩
    · rw [Hl.out]; exact blk_newk _ _ (by simp)
    · have := Hlt.out a ha hne; exact ⟨by omega, this⟩
  have hEW : W.heap[w.heap.size]? = some (.cells #[.int .i64 0] 33 (0, 0)) := by rw [← hW]; exact blk_past (blk_new w _) _
  have hgW : W.heap[g]? = w.heap[g]? := by rw [← hW]; exact Hg.out _ _
  have hGW : Ext w W := by rw [← hW]; exact ((Ext.refl w).alloc _).alloc _
  have C := Lib.hid (HC.out W (w.heap.size + 1) hIW (by omega) hgW (by omega))
  have HE := Lib.hid hEW; have HGW := Lib.hid hGW
  rw [hW]
  clear hW hIW hEW hgW hGW HC Hws Hg
  refine C.out.mono ?_
  rintro e w2 ⟨rfl, hg1⟩
  have HE2 := Lib.hid (blk_grown HE.out hg1 (by omega))
  have HG2 := Lib.hid (grown_new (grown_none HGW.out (some g)) hg1 (by omega))
  clear hg1 C HE HGW
  go_wp2_with fail
  refine leaves_cons (f := 102) (args := #[.pointer (some ⟨w.heap.size, 0, none⟩)]) (by simp) (by simp [go_sem]) ?_
  refine (rundo_wrong _ w.heap.size _ [] HE2.out).mono ?_
  rintro e u' w'' ⟨rfl, rfl, rfl⟩
  exact ⟨_, res_errno rfl (blk_set (blk_past HE2.out _) 0 _), rfl, grown_setNew (grown_alloc HG2.out _) (Nat.le_refl _) 0 _⟩

/-- what ReadRequest's closure does -/
theorem byReq (w : World) (r S g : Nat) (ys : List Nat) (op p N : Nat) (xs rest : List Nat) (hS : S ≤ w.heap.size) (hb : ∀ x ∈ ys, x < 256) (hB : Begins ys op p xs N rest) (h : IsWs w r S ys) (hg : S ≤ g) (hgw : g < w.heap.size) (hgr : g ≠ r) (hc : w.heap[g]? = some (.cells #[.int .u8 0, .int .i64 0, .slice none 0 0, .int .i64 0] 63 (0, 0))) :
    Calls Try.prog 77 #[.pointer (some ⟨r, 0, none⟩), .pointer (some ⟨g, 0, none⟩)] w (ByR 63 (fun A c => #[.int .u8 (op : Int), .int .i64 (p : Int), .slice A xs.length c, .int .i64 (N : Int)]) xs rest r S g w) := by
  have C := Lib.hid (call_good ys op p xs N rest hb hB w r S hS h)
  have Hc := Lib.hid hc
  clear hb hB h hc
  go_enter Try.func77, Try.ntmps77
  go_wp2_with fail
  refine C.out.mono ?_
  rintro e w1 ⟨A, c, rfl, ho, hI, hG⟩
  have K := Lib.hid (blk_grown Hc.out hG hgr)
  have Ho := Lib.hid ho; have HI := Lib.hid hI; have HG := Lib.hid hG
  clear ho hI hG C
  have k0 := blk_cell K.out 0; have k1 := blk_cell K.out 1; have k2 := blk_cell K.out 2; have k3 := blk_cell K.out 3
  have f0 := blk_frozen K.out 0; have f1 := blk_frozen K.out 1; have f2 := blk_frozen K.out 2; have f3 := blk_frozen K.out 3
  go_wp2_with fail
  go_end0
  have hG := grown_setCell (grown_setCell (grown_setCell (grown_set w1 g 0 (.int .u8 (op : Int))) 1 (.int .i64 (p : Int))) 2 (.slice A xs.length c)) 3 (.int .i64 (N : Int))
  refine ⟨A, c, w1, rfl, HG.out, hG, row4 K.out _ _ _ _, Ho.out.kept hG (own_ne Ho.out (by omega)), HI.out.grown hG (fun k hk => by injection hk with hk; omega)⟩
theorem byReq_wrong (w : World) (r S g : Nat) (ys : List Nat) (hS : S ≤ w.heap.size) (hb : ∀ x ∈ ys, x < 256) (hl : ys.length ≤ 4096) (hB : ¬ ∃ op p xs N rest, Begins ys op p xs N rest) (h : IsWs w r S ys) :
    Calls Try.prog 77 #[.pointer (some ⟨r, 0, none⟩), .pointer (some ⟨g, 0, none⟩)] w (WrongR w r) := by
  have C := Lib.hid (call_wrong ys hb hl hB w r S hS h)
  clear hb hB h
  go_enter Try.func77, Try.ntmps77
  go_wp2_with fail
  refine C.out.mono ?_
  rintro e w1 ⟨rfl, hG⟩
  exact ⟨rfl, rfl, hG⟩
end Go.Proofs.Ythkdjjfnmlemdaa
