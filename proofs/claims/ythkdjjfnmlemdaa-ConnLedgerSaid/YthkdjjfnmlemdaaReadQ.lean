/- wire.ReadRequest. -/
import Derived.Test.YthkdjjfnmlemdaaRead
import Derived.Test.YthkdjjfnmlemdaaWireC
namespace Go.Proofs.Ythkdjjfnmlemdaa
open Go.RowKit

theorem results_row4_tmp {P : Program} {fn : Func} {p u : Tmp} {ty : TypeId} (h : fn.results = #[.cell p ty, .tmp u]) (tmps : Array Value) (w : World) (g : Nat) (t : TypeId) (cs : Array Value) (fr : Nat × Nat) (d : TypeDesc)
    (hp : tmps.getD p undef = .pointer (some ⟨g, 0, none⟩)) (hg : w.heap[g]? = some (.cells cs t fr))
    (hu : P.underlying ty = some d) (hd : (match d with | .struct _ | .array _ _ => true | _ => false) = true) (hi : (P.info? ty).map (·.size) = some cs.size) :
    (results fn tmps).run P w = .ok (.tuple #[.agg cs, tmps.getD u undef]) w := results_row_tmp h tmps w g t cs fr d hp hg hu hd hi
/-- the return of ReadRequest, DocReadRequest, guess: a call's cell and a number -/
theorem ret_call2 {fn : Func} (h : fn.results = #[.cell 2 63, .tmp 3]) {tmps : Array Value} {w : World} {g : Nat} {a b c d : Value} {t : TypeId} {fr : Nat × Nat} (hp : tmps.getD 2 undef = .pointer (some ⟨g, 0, none⟩)) (hg : w.heap[g]? = some (.cells #[a, b, c, d] t fr)) :
    (results fn tmps).run Try.prog w = .ok (.tuple #[.agg #[a, b, c, d], tmps.getD 3 undef]) w :=
  results_row_tmp h tmps w g t #[a, b, c, d] fr _ hp hg Try.underlying63 (by rfl) (by kernel_rfl)
/-- a call that was read -/
def RetCall (op p : Nat) (xs : List Nat) (N : Nat) (w : World) (e : Ending) (w' : World) : Prop :=
  ∃ A c, e = .returned (.tuple #[callV (op : Int) (p : Int) A xs.length c (N : Int), .int .i64 0]) ∧ w'.ownsRow w.heap.size 5 1 (.slice A xs.length c) xs.length (vals .u8 xs) ∧ Ext w w'
theorem rd_blk {w : World} {A : Option Addr} {ys : List Nat} (hr : Rd w A (vals .u8 ys)) : ys ≠ [] → ∀ a, A = some a → a.block < w.heap.size := fun hne a ha => by
  obtain ⟨b, off, hA, hc⟩ := hr (by simpa [vals] using hne)
  cases ys with
  | nil => exact absurd rfl hne
  | cons x t => rw [hA] at ha; injection ha with ha; subst ha; exact World.block_lt_of_cell? w _ (hc 0 _ rfl)
theorem ext_row4 {w w2 : World} {g : Nat} (h : Ext w w2) (hg : w.heap.size ≤ g) (a b d e : Value) : Ext w ((((w2.setCell ⟨g, 0, none⟩ a).setCell ⟨g, 1, none⟩ b).setCell ⟨g, 2, none⟩ d).setCell ⟨g, 3, none⟩ e) :=
  (((h.setCell (p := ⟨g, 0, none⟩) hg a).setCell (p := ⟨g, 1, none⟩) hg b).setCell (p := ⟨g, 2, none⟩) hg d).setCell (p := ⟨g, 3, none⟩) hg e

set_option maxHeartbeats 1000000 in
theorem readReq_err (w : World) (A : Option Addr) (n c : Nat) (q : Int) (hq : (q == 0) = false) (ys : List Nat) (hr : Rd w A (vals .u8 ys))
    (hC : ∀ W g, Rd W A (vals .u8 ys) → w.heap.size ≤ W.heap.size → w.heap.size ≤ g → g < W.heap.size → W.heap[g]? = some (.cells #[.int .u8 0, .int .i64 0, .slice none 0 0, .int .i64 0] 63 (0, 0)) → Calls Try.prog 76 #[.slice A n c, .func (.func 77) #[] #[.pointer (some ⟨g, 0, none⟩)]] W fun e w' => e = .returned (.int .i64 q) ∧ W.grownBy w' (some g)) :
    Calls Try.prog 38 #[.slice A n c] w (RetE (.tuple #[callZ, .int .i64 q]) w) := by
  have hmf : ∀ (fn : Fn) (first cap : Array Value) (w : World), (Instr.makeFunc fn first cap).run Try.prog w = .ok (.func fn first cap) w := fun _ _ _ _ => rfl
  have HC := Lib.hid hC; have Hr := Lib.hid hr; clear hC hr
  have hq' : (q != 0) = true := by simp [bne, hq]
  go_enter Try.func38, Try.ntmps38
  go_wp2_with fail
  refine (HC.out _ (w.heap.size + 1) ((Hr.out.alloc _).alloc _) (by simp; omega) (by omega) (by simp) (blk_newk _ _ (by simp))).mono ?_
  rintro e w2 ⟨rfl, hG⟩
  have K := Lib.hid (blk_grown (blk_past (blk_new w _) _) hG (by omega))
  have hx := ext_grown (((Ext.refl w).alloc _).alloc _) hG (by omega)
  clear hG
  have k0 := blk_cell K.out 0; have k1 := blk_cell K.out 1; have k2 := blk_cell K.out 2; have k3 := blk_cell K.out 3
  have f0 := blk_frozen K.out 0; have f1 := blk_frozen K.out 1; have f2 := blk_frozen K.out 2; have f3 := blk_frozen K.out 3
  go_wp2_with fail
  refine bodyPost_ret (ret_call2 rfl rfl (row4 K.out _ _ _ _)) rfl ?_
  exact ⟨rfl, ext_row4 hx (Nat.le_refl _) _ _ _ _⟩
set_option maxHeartbeats 1000000 in
theorem readReq_good (w : World) (A : Option Addr) (n c : Nat) (ys xs : List Nat) (op p N : Nat) (hr : Rd w A (vals .u8 ys))
    (hC : ∀ W g, Rd W A (vals .u8 ys) → w.heap.size ≤ W.heap.size → w.heap.size ≤ g → g < W.heap.size → W.heap[g]? = some (.cells #[.int .u8 0, .int .i64 0, .slice none 0 0, .int .i64 0] 63 (0, 0)) → Calls Try.prog 76 #[.slice A n c, .func (.func 77) #[] #[.pointer (some ⟨g, 0, none⟩)]] W fun e w' => ∃ A c, e = .returned (.int .i64 0) ∧ W.grownBy w' (some g) ∧ w'.heap[g]? = some (.cells #[.int .u8 (op : Int), .int .i64 (p : Int), .slice A xs.length c, .int .i64 (N : Int)] 63 (0, 0)) ∧ w'.ownsRow W.heap.size 5 1 (.slice A xs.length c) xs.length (vals .u8 xs)) :
    Calls Try.prog 38 #[.slice A n c] w (RetCall op p xs N w) := by
  have hmf : ∀ (fn : Fn) (first cap : Array Value) (w : World), (Instr.makeFunc fn first cap).run Try.prog w = .ok (.func fn first cap) w := fun _ _ _ _ => rfl
  have HC := Lib.hid hC; have Hr := Lib.hid hr; clear hC hr
  go_enter Try.func38, Try.ntmps38
  go_wp2_with fail
  refine (HC.out _ (w.heap.size + 1) ((Hr.out.alloc _).alloc _) (by simp; omega) (by omega) (by simp) (blk_newk _ _ (by simp))).mono ?_
  rintro e w2 ⟨A1, c1, rfl, hG, hc, ho⟩
  have K := Lib.hid (blk_grown (blk_past (blk_new w _) _) hG (by omega))
  have hx := ext_grown (((Ext.refl w).alloc _).alloc _) hG (by omega)
  have KC := Lib.hid hc
  have Ho : Hid (w2.ownsRow (w.heap.size + 1) 5 1 (.slice A1 xs.length c1) xs.length (vals .u8 xs)) := own_base ho (by simp)
  clear hG hc ho
  have k0 := blk_cell K.out 0; have k1 := blk_cell K.out 1; have k2 := blk_cell K.out 2; have k3 := blk_cell K.out 3
  have f0 := blk_frozen K.out 0; have f1 := blk_frozen K.out 1; have f2 := blk_frozen K.out 2; have f3 := blk_frozen K.out 3
  have c0 := blk_cell KC.out 0; have c1 := blk_cell KC.out 1; have c2 := blk_cell KC.out 2; have c3 := blk_cell KC.out 3
  go_wp2_with fail
  refine bodyPost_ret (ret_call2 rfl rfl (row4 K.out _ _ _ _)) rfl ?_
  exact ⟨A1, _, rfl, own_row4 Ho.out (by omega) _ _ _ _, ext_row4 hx (Nat.le_refl _) _ _ _ _⟩

theorem readReq_ok (w : World) (A : Option Addr) (n c : Nat) (ys xs : List Nat) (op p N : Nat) (hl : ys.length = n) (hn : n ≤ 4096) (hnc : n ≤ c) (hb : ∀ x ∈ ys, x < 256) (hr : Rd w A (vals .u8 ys)) (hB : Begins ys op p xs N []) :
    Calls Try.prog 38 #[.slice A n c] w (RetCall op p xs N w) := by
  refine readReq_good w A n c ys xs op p N hr fun W g hR hs1 hs2 hs3 hc => ?_
  exact read_goodQ W A n c g 63 (fun A c => #[.int .u8 (op : Int), .int .i64 (p : Int), .slice A xs.length c, .int .i64 (N : Int)]) ys xs hl hn hnc hR hs3 w.heap.size hs1 (rd_blk hr) fun W' r hI hrr hgW hss => byReq W' r w.heap.size g ys op p N xs [] (by omega) hb hB hI hs2 (by omega) (by omega) (hgW.trans hc)
theorem readReq_none (w : World) (A : Option Addr) (n c : Nat) (ys : List Nat) (hl : ys.length = n) (hn : n ≤ 4096) (hnc : n ≤ c) (hb : ∀ x ∈ ys, x < 256) (hr : Rd w A (vals .u8 ys)) (hno : ¬ IsReq ys) :
    Calls Try.prog 38 #[.slice A n c] w (RetE (.tuple #[callZ, .int .i64 3]) w) := by
  refine readReq_err w A n c 3 rfl ys hr fun W g hR hs1 hs2 hs3 hc => ?_
  by_cases hB : ∃ op p xs N rest, Begins ys op p xs N rest
  · obtain ⟨op, p, xs, N, rest, hB⟩ := hB
    have hrest : rest ≠ [] := by rintro rfl; exact hno (begins_isReq.2 ⟨op, p, xs, N, hB⟩)
    exact read_moreQ W A n c g 63 (fun A c => #[.int .u8 (op : Int), .int .i64 (p : Int), .slice A xs.length c, .int .i64 (N : Int)]) ys xs rest hrest hl hn hnc hR hs3 w.heap.size hs1 (rd_blk hr) fun W' r hI hrr hgW hss => byReq W' r w.heap.size g ys op p N xs rest (by omega) hb hB hI hs2 (by omega) (by omega) (hgW.trans hc)
  · exact read_wrongQ W A n c g ys hl hn hnc hR hs3 w.heap.size hs1 (rd_blk hr) fun W' r hI hrr hgW hss => byReq_wrong W' r w.heap.size g ys (by omega) hb (by omega) hB hI
theorem readReq_long (w : World) (A : Option Addr) (n c : Nat) (ys : List Nat) (hr : Rd w A (vals .u8 ys)) (hn : 4096 < n) :
    Calls Try.prog 38 #[.slice A n c] w (RetE (.tuple #[callZ, .int .i64 2]) w) := by
  refine readReq_err w A n c 2 rfl ys hr fun W g hR hs1 hs2 hs3 hc => ?_
  exact (read_long W A n c _ hn).mono fun e w' ⟨he, hx⟩ => ⟨he, grown_none hx _⟩
end Go.Proofs.Ythkdjjfnmlemdaa
