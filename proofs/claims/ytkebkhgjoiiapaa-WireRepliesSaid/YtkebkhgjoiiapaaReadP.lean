/- wire.read of a reply. -/
import Derived.Test.YtkebkhgjoiiapaaRead
namespace Go.Proofs.Ytkebkhgjoiiapaa
open Go.RowKit
set_option maxHeartbeats 1000000 in
set_option maxRecDepth 100000 in
theorem read_goodP (w : World) (A0 : Option Addr) (n c0 g : Nat) (t : TypeId) (cs : Option Addr → Nat → Array Value) (ys xs : List Nat) (hl : ys.length = n) (hn : n ≤ 4096) (hnc : n ≤ c0) (hr : Rd w A0 (vals .u8 ys)) (hg : g < w.heap.size) (S : Nat) (hSw : S ≤ w.heap.size) (hA0 : ys ≠ [] → ∀ a, A0 = some a → a.block < S)
    (HC0 : ∀ W r, IsWs W r S ys → w.heap.size ≤ r → W.heap[g]? = w.heap[g]? → w.heap.size ≤ W.heap.size → Calls Try.prog 74 #[.pointer (some ⟨r, 0, none⟩), .pointer (some ⟨g, 0, none⟩)] W (ByR t cs xs [] r S g W)) :
    Calls Try.prog 70 #[.slice A0 n c0, .func (.func 74) #[] #[.pointer (some ⟨g, 0, none⟩)]] w fun e w' => ∃ A c, e = .returned (.int .i64 0) ∧ w.grownBy w' (some g) ∧ w'.heap[g]? = some (.cells (cs A c) t (0, 0)) ∧ w'.ownsRow w.heap.size 5 1 (.slice A xs.length c) xs.length (vals .u8 xs) := by
  have hmf : ∀ (fn : Fn) (first cap : Array Value) (w : World), (Instr.makeFunc fn first cap).run Try.prog w = .ok (.func fn first cap) w := fun _ _ _ _ => rfl
  have HC := Lib.hid HC0; clear HC0
  have hws : ∀ o o' : Obj, Rd ((w.alloc o).alloc o') A0 (vals .u8 ys) := fun o o' => (hr.alloc o).alloc o'
  have hlt : ∀ a, A0 = some a → ys ≠ [] → a.block < S := fun a ha hne => hA0 hne a ha
  have Hws := Lib.hid hws; have Hlt := Lib.hid hlt; have Hl := Lib.hid hl
  have Hg := Lib.hid (fun o o' : Obj => (blk_far2 w o o' g hg)); clear hws hlt hl hr hA0
  go_enter_defers Try.func70, Try.ntmps70
  go_wp2_with fail
  obtain ⟨W, hW⟩ : ∃ W, (w.alloc (.cells #[.int .i64 0] 27)).alloc (.cells #[.slice A0 n c0] 134) = W := ⟨_, rfl⟩
  have hsW : w.heap.size + 2 = W.heap.size := by rw [← hW]; simp
  have hIW : IsWs W (w.heap.size + 1) S ys := by
    rw [← hW]
    refine ⟨A0, c0, ?_, by rw [Hl.out]; exact hnc, Hws.out _ _, fun hne a ha => ?_⟩
    · rw [Hl.out]; exact blk_newk _ _ (by simp)
    · have := Hlt.out a ha hne; exact ⟨by omega, this⟩
  have hEW : W.heap[w.heap.size]? = some (.cells #[.int .i64 0] 27 (0, 0)) := by rw [← hW]; exact blk_past (blk_new w _) _
  have hgW : W.heap[g]? = w.heap[g]? := by rw [← hW]; exact Hg.out _ _
  have hGW : Ext w W := by rw [← hW]; exact ((Ext.refl w).alloc _).alloc _
  have C := Lib.hid (HC.out W (w.heap.size + 1) hIW (by omega) hgW (by omega))
  have HE := Lib.hid hEW; have HGW := Lib.hid hGW
  rw [hW]
  clear hW hIW hEW hgW hGW HC Hws Hg
  refine C.out.mono ?_
  rintro e w2 ⟨A, c, wm, rfl, hg1, hg2, hcs, ho, hS⟩
  obtain ⟨A2, c2, hw2, _, _, _⟩ := hS
  have h0 : w2.cell? ⟨w.heap.size + 1, 0, none⟩ = some (.slice A2 0 c2) := blk_cell hw2 0
  have HE2 := Lib.hid (blk_grown (blk_grown HE.out hg1 (by omega)) hg2 (by omega))
  have HG2 := Lib.hid (grown_new2 HGW.out hg1 hg2 (by omega))
  have Hcs := Lib.hid hcs; have Ho := Lib.hid ho
  have hs2 : W.heap.size ≤ w2.heap.size := Nat.le_trans hg1.size hg2.size
  clear hg1 hg2 hcs ho hw2 C HE HGW
  go_wp2_with fail
  refine (must_ok _ _).mono ?_
  rintro e w' ⟨rfl, rfl⟩
  have e0 := blk_cell HE2.out 0; have f0 := blk_frozen HE2.out 0
  go_wp2_with fail
  refine leaves_cons (f := 84) (args := #[.pointer (some ⟨w.heap.size, 0, none⟩)]) (by simp) (by simp [go_sem]) ?_
  refine (rundo_idle _ _).mono ?_
  rintro e u' w'' ⟨rfl, rfl, rfl⟩
  have hG := grown_set w2 w.heap.size 0 (.int .i64 0)
  have hoo : w2.ownsRow (w.heap.size + 1) 5 1 (.slice A xs.length c) xs.length (vals .u8 xs) := own_base Ho.out (by omega)
  exact ⟨_, res_errno rfl (blk_set HE2.out 0 _), A, c, rfl, grown_setNew HG2.out (Nat.le_refl _) 0 _, blk_grown' Hcs.out hG (by omega), own_base (hoo.kept hG (own_ne hoo (by omega))) (by omega)⟩
set_option maxHeartbeats 1000000 in
set_option maxRecDepth 100000 in
theorem read_moreP (w : World) (A0 : Option Addr) (n c0 g : Nat) (t : TypeId) (cs : Option Addr → Nat → Array Value) (ys xs rest : List Nat) (hrest : rest ≠ []) (hl : ys.length = n) (hn : n ≤ 4096) (hnc : n ≤ c0) (hr : Rd w A0 (vals .u8 ys)) (hg : g < w.heap.size) (S : Nat) (hSw : S ≤ w.heap.size) (hA0 : ys ≠ [] → ∀ a, A0 = some a → a.block < S)
    (HC0 : ∀ W r, IsWs W r S ys → w.heap.size ≤ r → W.heap[g]? = w.heap[g]? → w.heap.size ≤ W.heap.size → Calls Try.prog 74 #[.pointer (some ⟨r, 0, none⟩), .pointer (some ⟨g, 0, none⟩)] W (ByR t cs xs rest r S g W)) :
    Calls Try.prog 70 #[.slice A0 n c0, .func (.func 74) #[] #[.pointer (some ⟨g, 0, none⟩)]] w fun e w' => e = .returned (.int .i64 3) ∧ w.grownBy w' (some g) := by
  have hmf : ∀ (fn : Fn) (first cap : Array Value) (w : World), (Instr.makeFunc fn first cap).run Try.prog w = .ok (.func fn first cap) w := fun _ _ _ _ => rfl
  have HC := Lib.hid HC0; clear HC0
  have hws : ∀ o o' : Obj, Rd ((w.alloc o).alloc o') A0 (vals .u8 ys) := fun o o' => (hr.alloc o).alloc o'
  have hlt : ∀ a, A0 = some a → ys ≠ [] → a.block < S := fun a ha hne => hA0 hne a ha
  have Hws := Lib.hid hws; have Hlt := Lib.hid hlt; have Hl := Lib.hid hl
  have Hg := Lib.hid (fun o o' : Obj => (blk_far2 w o o' g hg)); clear hws hlt hl hr hA0
  go_enter_defers Try.func70, Try.ntmps70
  go_wp2_with fail
  obtain ⟨W, hW⟩ : ∃ W, (w.alloc (.cells #[.int .i64 0] 27)).alloc (.cells #[.slice A0 n c0] 134) = W := ⟨_, rfl⟩
  have hsW : w.heap.size + 2 = W.heap.size := by rw [← hW]; simp
  have hIW : IsWs W (w.heap.size + 1) S ys := by
    rw [← hW]
    refine ⟨A0, c0, ?_, by rw [Hl.out]; exact hnc, Hws.out _ _, fun hne a ha => ?_⟩
    · rw [Hl.out]; exact blk_newk _ _ (by simp)
    · have := Hlt.out a ha hne; exact ⟨by omega, this⟩
  have hEW : W.heap[w.heap.size]? = some (.cells #[.int .i64 0] 27 (0, 0)) := by rw [← hW]; exact blk_past (blk_new w _) _
  have hgW : W.heap[g]? = w.heap[g]? := by rw [← hW]; exact Hg.out _ _
  have hGW : Ext w W := by rw [← hW]; exact ((Ext.refl w).alloc _).alloc _
  have C := Lib.hid (HC.out W (w.heap.size + 1) hIW (by omega) hgW (by omega))
  have HE := Lib.hid hEW; have HGW := Lib.hid hGW
  rw [hW]
  clear hW hIW hEW hgW hGW HC Hws Hg
  refine C.out.mono ?_
  rintro e w2 ⟨A, c, wm, rfl, hg1, hg2, hcs, ho, hS⟩
  obtain ⟨A2, c2, hw2, _, _, _⟩ := hS
  have h0 : w2.cell? ⟨w.heap.size + 1, 0, none⟩ = some (.slice A2 rest.length c2) := blk_cell hw2 0
  have hlen : ((rest.length : Int) == 0) = false := by
    rw [beq_eq_false_iff_ne]
    have := List.length_pos_iff.2 hrest
    omega
  have HE2 := Lib.hid (blk_grown (blk_grown HE.out hg1 (by omega)) hg2 (by omega))
  have HG2 := Lib.hid (grown_new2 HGW.out hg1 hg2 (by omega))
  clear hg1 hg2 hcs ho hw2 C HE HGW
  go_wp2_with fail
  refine (must_no _ _).mono ?_
  rintro e w' ⟨rfl, rfl⟩
  go_wp2_with fail
  refine leaves_cons (f := 84) (args := #[.pointer (some ⟨w.heap.size, 0, none⟩)]) (by simp) (by simp [go_sem]) ?_
  refine (rundo_wrong _ w.heap.size _ [] HE2.out).mono ?_
  rintro e u' w'' ⟨rfl, rfl, rfl⟩
  exact ⟨_, res_errno rfl (blk_set (blk_past HE2.out _) 0 _), rfl, grown_setNew (grown_alloc HG2.out _) (Nat.le_refl _) 0 _⟩
set_option maxHeartbeats 1000000 in
set_option maxRecDepth 100000 in
theorem read_wrongP (w : World) (A0 : Option Addr) (n c0 g : Nat) (ys : List Nat) (hl : ys.length = n) (hn : n ≤ 4096) (hnc : n ≤ c0) (hr : Rd w A0 (vals .u8 ys)) (hg : g < w.heap.size) (S : Nat) (hSw : S ≤ w.heap.size) (hA0 : ys ≠ [] → ∀ a, A0 = some a → a.block < S)
    (HC0 : ∀ W r, IsWs W r S ys → w.heap.size ≤ r → W.heap[g]? = w.heap[g]? → w.heap.size ≤ W.heap.size → Calls Try.prog 74 #[.pointer (some ⟨r, 0, none⟩), .pointer (some ⟨g, 0, none⟩)] W (WrongR W r)) :
    Calls Try.prog 70 #[.slice A0 n c0, .func (.func 74) #[] #[.pointer (some ⟨g, 0, none⟩)]] w fun e w' => e = .returned (.int .i64 3) ∧ w.grownBy w' (some g) := by
  have hmf : ∀ (fn : Fn) (first cap : Array Value) (w : World), (Instr.makeFunc fn first cap).run Try.prog w = .ok (.func fn first cap) w := fun _ _ _ _ => rfl
  have HC := Lib.hid HC0; clear HC0
  have hws : ∀ o o' : Obj, Rd ((w.alloc o).alloc o') A0 (vals .u8 ys) := fun o o' => (hr.alloc o).alloc o'
  have hlt : ∀ a, A0 = some a → ys ≠ [] → a.block < S := fun a ha hne => hA0 hne a ha
  have Hws := Lib.hid hws; have Hlt := Lib.hid hlt; have Hl := Lib.hid hl
  have Hg := Lib.hid (fun o o' : Obj => (blk_far2 w o o' g hg)); clear hws hlt hl hr hA0
  go_enter_defers Try.func70, Try.ntmps70
  go_wp2_with fail
  obtain ⟨W, hW⟩ : ∃ W, (w.alloc (.cells #[.int .i64 0] 27)).alloc (.cells #[.slice A0 n c0] 134) = W := ⟨_, rfl⟩
  have hsW : w.heap.size + 2 = W.heap.size := by rw [← hW]; simp
  have hIW : IsWs W (w.heap.size + 1) S ys := by
    rw [← hW]
    refine ⟨A0, c0, ?_, by rw [Hl.out]; exact hnc, Hws.out _ _, fun hne a ha => ?_⟩
    · rw [Hl.out]; exact blk_newk _ _ (by simp)
    · have := Hlt.out a ha hne; exact ⟨by omega, this⟩
  have hEW : W.heap[w.heap.size]? = some (.cells #[.int .i64 0] 27 (0, 0)) := by rw [← hW]; exact blk_past (blk_new w _) _
  have hgW : W.heap[g]? = w.heap[g]? := by rw [← hW]; exact Hg.out _ _
  have hGW : Ext w W := by rw [← hW]; exact ((Ext.refl w).alloc _).alloc _
  have C := Lib.hid (HC.out W (w.heap.size + 1) hIW (by omega) hgW (by omega))
  have HE := Lib.hid hEW; have HGW := Lib.hid hGW
  rw [hW]
  clear hW hIW hEW hgW hGW HC Hws Hg
  refine C.out.mono ?_
  rintro e w2 ⟨rfl, hg1⟩
  have HE2 := Lib.hid (blk_grown HE.out hg1 (by omega))
  have HG2 := Lib.hid (grown_new (grown_none HGW.out (some g)) hg1 (by omega))
  clear hg1 C HE HGW
  go_wp2_with fail
  refine leaves_cons (f := 84) (args := #[.pointer (some ⟨w.heap.size, 0, none⟩)]) (by simp) (by simp [go_sem]) ?_
  refine (rundo_wrong _ w.heap.size _ [] HE2.out).mono ?_
  rintro e u' w'' ⟨rfl, rfl, rfl⟩
  exact ⟨_, res_errno rfl (blk_set (blk_past HE2.out _) 0 _), rfl, grown_setNew (grown_alloc HG2.out _) (Nat.le_refl _) 0 _⟩
end Go.Proofs.Ytkebkhgjoiiapaa
