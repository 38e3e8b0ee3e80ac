/- wire.reader's call. -/
import Derived.Test.YthkdjjfnmlemdaaRd
import Derived.Test.YthkdjjfnmlemdaaTokH
import Derived.Deep.RegionHeld3
import Derived.Deep.DeepCutAuto
import Derived.Deep.CutBlock
namespace Go.Proofs.Ythkdjjfnmlemdaa
open Go.RowKit

theorem ret_call1 {fn : Func} (h : fn.results = #[.cell 2 63]) {tmps : Array Value} {w : World} {g : Nat} {a b c d : Value} {t : TypeId} {fr : Nat × Nat} (hp : tmps.getD 2 undef = .pointer (some ⟨g, 0, none⟩)) (hg : w.heap[g]? = some (.cells #[a, b, c, d] t fr)) :
    (results fn tmps).run Try.prog w = .ok (.agg #[a, b, c, d]) w :=
  results_cell_row h tmps w g t #[a, b, c, d] fr _ hp hg Try.underlying63 (by rfl) (by kernel_rfl)
/-- what call leaves of a right call's bytes -/
def CallR (op p : Nat) (xs : List Nat) (N : Nat) (rest : List Nat) (w : World) (r S : Nat) (e : Ending) (w' : World) : Prop :=
  ∃ A c, e = .returned (callV (op : Int) (p : Int) A xs.length c (N : Int)) ∧ w'.ownsRow w.heap.size 5 1 (.slice A xs.length c) xs.length (vals .u8 xs) ∧ IsWs w' r S rest ∧ w.grownBy w' (some r)
def WrongR (w : World) (r : Nat) (e : Ending) (w' : World) : Prop := e = Wrong ∧ w.grownBy w' (some r)

theorem head_cell {w : World} {A : Option Addr} {x : Nat} {t : List Nat} (h : Rd w A (vals .u8 (x :: t))) : ∃ b off, A = some ⟨b, off, none⟩ ∧ w.cell? ⟨b, off, none⟩ = some (.int .u8 (x : Int)) := by
  obtain ⟨b, off, hA, hc⟩ := h (by simp [vals])
  exact ⟨b, off, hA, hc 0 _ rfl⟩

theorem grown_setNew {w a : World} {row : Option Nat} (h : w.grownBy a row) {g : Nat} (hg : w.heap.size ≤ g) (i : Nat) (u : Value) : w.grownBy (a.setCell ⟨g, i, none⟩ u) row :=
  ⟨h.os, h.tape, h.output, by simpa using h.size, fun k hk hne => (heap_setCell_other a ⟨g, i, none⟩ k u (by simp; omega)).trans (h.block k hk hne)⟩
theorem grown_row4 {w a : World} {row : Option Nat} (h : w.grownBy a row) {g : Nat} (hg : w.heap.size ≤ g) (x y z u : Value) : w.grownBy ((((a.setCell ⟨g, 0, none⟩ x).setCell ⟨g, 1, none⟩ y).setCell ⟨g, 2, none⟩ z).setCell ⟨g, 3, none⟩ u) row :=
  grown_setNew (grown_setNew (grown_setNew (grown_setNew h hg 0 x) hg 1 y) hg 2 z) hg 3 u
theorem ws_row4 {w : World} {r S g : Nat} {zs : List Nat} (h : IsWs w r S zs) (hr : r < g) (hS : S ≤ g) (x y z u : Value) : IsWs ((((w.setCell ⟨g, 0, none⟩ x).setCell ⟨g, 1, none⟩ y).setCell ⟨g, 2, none⟩ z).setCell ⟨g, 3, none⟩ u) r S zs :=
  h.grown (grown_setCell (grown_setCell (grown_setCell (grown_set w g 0 x) 1 y) 2 z) 3 u) (fun k hk => by injection hk with hk; omega)
theorem call_nil (w : World) (r S : Nat) (h : IsWs w r S []) :
    Calls Try.prog 78 #[.pointer (some ⟨r, 0, none⟩)] w (WrongR w r) := by
  have H := Lib.hid (fun o : Obj => h.ext ((Ext.refl w).alloc o)); clear h
  go_enter Try.func78, Try.ntmps78
  go_wp2_with fail
  refine (wtake_no _ r S 1 [] (H.out _) (by decide)).mono ?_
  rintro e w' ⟨rfl, rfl⟩
  exact ⟨rfl, rfl, grown_none ((Ext.refl w).alloc _) _⟩

set_option maxHeartbeats 2000000 in
theorem call56 (w : World) (r S o : Nat) (hSw : S ≤ w.heap.size) (ho : o = 5 ∨ o = 6) (rest : List Nat) (h : IsWs w r S (o :: rest)) :
    Calls Try.prog 78 #[.pointer (some ⟨r, 0, none⟩)] w (CallR o 0 [] 0 rest w r S) := by
  have q1 : ((o : Int) == 1) = false := by rw [beq_eq_false_iff_ne]; omega
  have q2 : ((o : Int) == 2) = false := by rw [beq_eq_false_iff_ne]; omega
  have q3 : ((o : Int) == 3) = false := by rw [beq_eq_false_iff_ne]; omega
  have q4 : ((o : Int) == 4) = false := by rw [beq_eq_false_iff_ne]; omega
  have q5 : ((o : Int) == 5) = true ∨ (((o : Int) == 5) = false ∧ ((o : Int) == 6) = true) := by
    rcases ho with h | h
    · left; rw [beq_iff_eq]; omega
    · right; exact ⟨by rw [beq_eq_false_iff_ne]; omega, by rw [beq_iff_eq]; omega⟩
  have hr := h.lt
  have H := Lib.hid (fun o : Obj => h.ext ((Ext.refl w).alloc o)); clear h ho
  rcases q5 with q5 | ⟨q5, q6⟩
  all_goals
    go_enter Try.func78, Try.ntmps78
    go_wp2_with fail
    refine (wtake_ok _ r S 1 _ (H.out _) (by simp)).mono ?_
    rintro e w1 ⟨A, c, rfl, hc, hR, hS, hg, hz, hbl⟩
    obtain ⟨b, off, rfl, hc0⟩ := head_cell hR
    have K2 := Lib.hid (blk_grown (blk_new w _) hg (by omega))
    have HS := Lib.hid hS; have HG := Lib.hid hg
    rw [World.size_alloc] at hz
    clear hR hS hg
    go_wp2_with fail
    refine (must_ok _ _).mono ?_
    rintro e w' ⟨rfl, rfl⟩
    have k0 := cell_past (blk_cell K2.out 0); have k1 := cell_past (blk_cell K2.out 1); have k2 := cell_past (blk_cell K2.out 2); have k3 := cell_past (blk_cell K2.out 3)
    have f0 := fz_past K2.out 0; have f1 := fz_past K2.out 1; have f2 := fz_past K2.out 2; have f3 := fz_past K2.out 3
    go_wp2_with fail
    refine bodyPost_ret (ret_call1 rfl rfl (row4 (blk_past K2.out _) _ _ _ _)) rfl ?_
    exact ⟨none, 0, rfl, World.ownsRow_nil _ _ _ _, ws_row4 (HS.out.ext ((Ext.refl w1).alloc _)) (by omega) hSw _ _ _ _, grown_row4 (grown_alloc (World.grown_trans (grown_none ((Ext.refl w).alloc _) _) HG.out) _) (Nat.le_refl _) _ _ _ _⟩

theorem cell_otherD {w : World} {p : Addr} {v : Value} {g i : Nat} {u : Value} (h : w.cell? p = some v) (hne : p.block ≠ g) : (w.setCell ⟨g, i, none⟩ u).drew.cell? p = some v := cell_other h hne
theorem blk_grown' {w w' : World} {g r : Nat} {o : Obj} (h : w.heap[g]? = some o) (hg : w.grownBy w' (some r)) (hne : g ≠ r) : w'.heap[g]? = some o := blk_grown h hg hne
theorem own_row4 {w : World} {B g n c : Nat} {e : TypeId} {A : Option Addr} {xs : List Value} (h : w.ownsRow B e 1 (.slice A n c) n xs) (hg : g < B) (x y z u : Value) : ((((w.setCell ⟨g, 0, none⟩ x).setCell ⟨g, 1, none⟩ y).setCell ⟨g, 2, none⟩ z).setCell ⟨g, 3, none⟩ u).ownsRow g e 1 (.slice A n c) n xs :=
  own_base (h.kept (grown_setCell (grown_setCell (grown_setCell (grown_set w g 0 x) 1 y) 2 z) 3 u) (own_ne h hg)) (Nat.le_of_lt hg)
theorem call_op (w : World) (r S o : Nat) (_hSw : S ≤ w.heap.size) (ho : o = 0 ∨ 7 ≤ o) (rest : List Nat) (h : IsWs w r S (o :: rest)) :
    Calls Try.prog 78 #[.pointer (some ⟨r, 0, none⟩)] w (WrongR w r) := by
  have q1 : ((o : Int) == 1) = false := by rw [beq_eq_false_iff_ne]; omega
  have q2 : ((o : Int) == 2) = false := by rw [beq_eq_false_iff_ne]; omega
  have q3 : ((o : Int) == 3) = false := by rw [beq_eq_false_iff_ne]; omega
  have q4 : ((o : Int) == 4) = false := by rw [beq_eq_false_iff_ne]; omega
  have q5 : ((o : Int) == 5) = false := by rw [beq_eq_false_iff_ne]; omega
  have q6 : ((o : Int) == 6) = false := by rw [beq_eq_false_iff_ne]; omega
  have hr := h.lt
  have H := Lib.hid (fun o : Obj => h.ext ((Ext.refl w).alloc o)); clear h ho
  go_enter Try.func78, Try.ntmps78
  go_wp2_with fail
  refine (wtake_ok _ r S 1 _ (H.out _) (by simp)).mono ?_
  rintro e w1 ⟨A, c, rfl, hc, hR, hS, hg, hz, hbl⟩
  obtain ⟨b, off, rfl, hc0⟩ := head_cell hR
  have HG := Lib.hid hg
  clear hR hS hg hz
  go_wp2_with fail
  refine (must_no _ _).mono ?_
  rintro e w' ⟨rfl, rfl⟩
  exact ⟨rfl, rfl, grown_alloc (World.grown_trans (grown_none ((Ext.refl w).alloc _) _) HG.out) _⟩

/-- what the switch of call leaves -/
def CallMid (op p : Nat) (xs : List Nat) (N : Nat) (rest : List Nat) (w : World) (r S g : Nat) (wd : World) : Prop :=
  ∃ A c, wd.heap[g]? = some (.cells #[.int .u8 (op : Int), .int .i64 (p : Int), .slice A xs.length c, .int .i64 (N : Int)] 63 (0, 0)) ∧
    wd.heap[w.heap.size]? = some (.cells #[.int .u8 0, .int .i64 0, .slice none 0 0, .int .i64 0] 63 (0, 0)) ∧
    wd.ownsRow (w.heap.size + 1) 5 1 (.slice A xs.length c) xs.length (vals .u8 xs) ∧ IsWs wd r S rest ∧ w.grownBy wd (some r)
set_option maxHeartbeats 4000000 in
set_option maxRecDepth 100000 in
theorem call3_ok (w : World) (r S p N : Nat) (xs : List Nat) (hSw : S ≤ w.heap.size) (hb : ∀ x ∈ xs, x < 256) (hp : p < 32) (h1 : 1 ≤ N) (h2 : N ≤ 4611686018427387903) (hx : xs.length ≤ 255) (h : IsWs w r S (3 :: tokB p xs N)) :
    Calls Try.prog 78 #[.pointer (some ⟨r, 0, none⟩)] w (CallR 3 p xs N [] w r S) := by
  have hr := h.lt
  have H := Lib.hid (fun o : Obj => h.ext ((Ext.refl w).alloc o)); clear h
  have HL := Lib.hid (tokB_len p xs N)
  have Hb := Lib.hid hb; clear hb
  go_enter Try.func78, Try.ntmps78
  go_wp2_with fail
  refine (wtake_ok _ r S 1 _ (H.out _) (by simp)).mono ?_
  rintro e w1 ⟨A, c, rfl, hc, hR, hS, hg, hz, hbl⟩
  obtain ⟨b, off, rfl, hc0⟩ := head_cell hR
  have K2 := Lib.hid (blk_grown (blk_new w _) hg (by omega))
  have HS := Lib.hid (show IsWs w1 r S (tokB p xs N) from hS); have HG := Lib.hid hg
  rw [World.size_alloc] at hz
  clear hR hS hg
  go_upto_block 0 with fail
  go_cut [6] (fun _ wd => CallMid 3 p xs N [] w r S w1.heap.size wd)
  case first =>
    obtain ⟨A1, c1, hw1, _, _, _⟩ := HS.out
    have h0 := cell_past (blk_cell hw1 0)
    clear hw1
    go_wp2_with fail
    refine (wtake_ok _ r S (tokB p xs N).length _ (HS.out.ext ((Ext.refl w1).alloc _)) (Nat.le_refl _)).mono ?_
    rintro e w2 ⟨A2, c2, rfl, hc2, hR2, hS2, hg2, hz2, hbl2⟩
    rw [List.take_length] at hR2
    rw [List.drop_length] at hS2
    rw [World.size_alloc] at hz2
    have K3 := Lib.hid (blk_grown (blk_new w1 _) hg2 (by omega))
    have K2' := Lib.hid (blk_grown (blk_past K2.out _) hg2 (by omega))
    have HS2 := Lib.hid hS2
    have hgA := World.grown_trans (grown_alloc (World.grown_trans (grown_none ((Ext.refl w).alloc (.cells #[.int .u8 0, .int .i64 0, .slice none 0 0, .int .i64 0] 63)) (some r)) HG.out) _) hg2
    have HGA := Lib.hid hgA
    have C := Lib.hid (decode_ok w2 p N xs.length A2 (tokB p xs N).length c2 xs rfl HL.out Hb.out hR2 hc2 h1 h2 hp hx)
    clear hS2 hg2 hgA hR2 h0 HS K2 hc0
    go_wp2_with fail
    refine C.out.mono ?_
    rintro e w3 ⟨A3, c3, rfl, hown3, hy3⟩
    have K3' := Lib.hid (blk_ext K3.out hy3); have K2 := Lib.hid (blk_ext K2'.out hy3)
    have HS3 := Lib.hid (HS2.out.ext hy3)
    have HG3 := Lib.hid (grown_ext HGA.out hy3)
    have Hown := Lib.hid hown3
    have hs3 : w2.heap.size ≤ w3.heap.size := hy3.size
    clear hown3 HS2 HGA K3 K2' C
    go_wp2_with fail
    refine (must_ok _ _).mono ?_
    rintro e w' ⟨rfl, rfl⟩
    obtain ⟨W, hW⟩ : ∃ W, w3.alloc (.cells #[.int .i64 (p : Int), .slice A3 xs.length c3, .int .i64 (N : Int)] 53) = W := ⟨_, rfl⟩
    have hyW : Ext w3 W := by rw [← hW]; exact (Ext.refl w3).alloc _
    have KT : Hid (W.heap[w3.heap.size]? = some (.cells #[.int .i64 (p : Int), .slice A3 xs.length c3, .int .i64 (N : Int)] 53 (0, 0))) := by rw [← hW]; exact blk_new _ _
    have KC := Lib.hid (blk_ext K3'.out hyW); have KR := Lib.hid (blk_ext K2.out hyW)
    have HSW := Lib.hid (HS3.out.ext hyW)
    have HGW := Lib.hid (grown_ext HG3.out hyW)
    have HoW := Lib.hid (own_ext Hown.out hyW)
    rw [hW]
    clear hW hyW K3' K2 HS3 HG3 Hown
    have t0 := blk_cell KT.out 0; have t1 := blk_cell KT.out 1; have t2 := blk_cell KT.out 2
    have u0 := blk_cell KC.out 0; have u1 := blk_cell KC.out 1; have u2 := blk_cell KC.out 2; have u3 := blk_cell KC.out 3
    have f0 := blk_frozen KC.out 0; have f1 := blk_frozen KC.out 1; have f2 := blk_frozen KC.out 2; have f3 := blk_frozen KC.out 3
    have hne : w3.heap.size ≠ w1.heap.size := by omega
    go_upto_region 7 with fail
    go_region_held3 (fun w' => w'.cell? ⟨w3.heap.size, 0, none⟩ = some (.int .i64 (p : Int)) ∧ w'.cell? ⟨w3.heap.size, 1, none⟩ = some (.slice A3 xs.length c3) ∧ w'.cell? ⟨w3.heap.size, 2, none⟩ = some (.int .i64 (N : Int))) (((try go_split_ands); refine ⟨?_, ?_, ?_⟩ <;> first | exact cell_otherD (by assumption) hne | exact cell_other (by assumption) hne | assumption)) (fail)
    go_wp2_with fail
    go_meet
    have hG := grown_drew (grown_setCell (grown_setCell (grown_set W w1.heap.size 1 (.int .i64 (p : Int))) 2 (.slice A3 xs.length c3)) 3 (.int .i64 (N : Int)))
    exact ⟨A3, c3, blk_set (blk_set (blk_set KC.out 1 _) 2 _) 3 _, blk_grown' KR.out hG (by omega), own_base (HoW.out.kept hG (own_ne HoW.out (by omega))) (by omega), HSW.out.grown hG (fun k hk => by injection hk with hk; omega), grown_new HGW.out hG (by omega)⟩
  case rest =>
    obtain ⟨A3, c3, hC, hR, ho, hS, hG⟩ := hcut
    have KC := Lib.hid hC; have KR := Lib.hid hR; have Ho := Lib.hid ho; have HSc := Lib.hid hS; have HGc := Lib.hid hG
    clear hC hR ho hS hG
    have c0 := blk_cell KC.out 0; have c1 := blk_cell KC.out 1; have c2 := blk_cell KC.out 2; have c3 := blk_cell KC.out 3
    have k0 := blk_cell KR.out 0; have k1 := blk_cell KR.out 1; have k2 := blk_cell KR.out 2; have k3 := blk_cell KR.out 3
    have f0 := blk_frozen KR.out 0; have f1 := blk_frozen KR.out 1; have f2 := blk_frozen KR.out 2; have f3 := blk_frozen KR.out 3
    go_wp2_with fail
    refine bodyPost_ret (ret_call1 rfl rfl (row4 KR.out _ _ _ _)) rfl ?_
    exact ⟨A3, _, rfl, own_row4 Ho.out (by omega) _ _ _ _, ws_row4 HSc.out (by omega) hSw _ _ _ _, grown_row4 HGc.out (Nat.le_refl _) _ _ _ _⟩
set_option maxHeartbeats 4000000 in
set_option maxRecDepth 100000 in
theorem call3_bad (w : World) (r S : Nat) (ts : List Nat) (_hSw : S ≤ w.heap.size) (hb : ∀ x ∈ ts, x < 256) (hl : ts.length ≤ 4096) (hno : ¬ IsTok ts) (h : IsWs w r S (3 :: ts)) :
    Calls Try.prog 78 #[.pointer (some ⟨r, 0, none⟩)] w (WrongR w r) := by
  have hr := h.lt
  have H := Lib.hid (fun o : Obj => h.ext ((Ext.refl w).alloc o)); clear h
  have Hb := Lib.hid hb; have Hno := Lib.hid hno; clear hb hno
  go_enter Try.func78, Try.ntmps78
  go_wp2_with fail
  refine (wtake_ok _ r S 1 _ (H.out _) (by simp)).mono ?_
  rintro e w1 ⟨A, c, rfl, hc, hR, hS, hg, hz, hbl⟩
  obtain ⟨b, off, rfl, hc0⟩ := head_cell hR
  have HS := Lib.hid (show IsWs w1 r S ts from hS); have HG := Lib.hid hg
  rw [World.size_alloc] at hz
  clear hR hS hg
  obtain ⟨A1, c1, hw1, _, _, _⟩ := HS.out
  have h0 := cell_past (blk_cell hw1 0)
  clear hw1
  go_wp2_with fail
  refine (wtake_ok _ r S ts.length _ (HS.out.ext ((Ext.refl w1).alloc _)) (Nat.le_refl _)).mono ?_
  rintro e w2 ⟨A2, c2, rfl, hc2, hR2, hS2, hg2, hz2, hbl2⟩
  rw [List.take_length] at hR2
  have hgA := World.grown_trans (grown_alloc (World.grown_trans (grown_none ((Ext.refl w).alloc (.cells #[.int .u8 0, .int .i64 0, .slice none 0 0, .int .i64 0] 63)) (some r)) HG.out) _) hg2
  have HGA := Lib.hid hgA
  have C := Lib.hid (decode_none w2 A2 ts.length c2 ts rfl Hb.out hR2 hc2 hl Hno.out)
  clear hS2 hg2 hgA hR2 h0 HS hc0
  go_wp2_with fail
  refine C.out.mono ?_
  rintro e w3 ⟨rfl, hy3⟩
  have HG3 := Lib.hid (grown_ext HGA.out hy3)
  clear HGA C
  go_wp2_with fail
  refine (must_no _ _).mono ?_
  rintro e w' ⟨rfl, rfl⟩
  exact ⟨rfl, rfl, grown_alloc HG3.out _⟩
end Go.Proofs.Ythkdjjfnmlemdaa
