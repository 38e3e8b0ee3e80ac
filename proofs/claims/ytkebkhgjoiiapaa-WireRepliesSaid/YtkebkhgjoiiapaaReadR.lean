/- wire.ReadReply of a right reply's bytes, whole. -/
import Derived.Test.YtkebkhgjoiiapaaRepR
namespace Go.Proofs.Ytkebkhgjoiiapaa
open Go.RowKit

theorem ret_rep2 {fn : Func} (h : fn.results = #[.cell 2 82, .tmp 3]) {tmps : Array Value} {w : World} {g : Nat} {a b c d e f : Value} {t : TypeId} {fr : Nat × Nat} (hp : tmps.getD 2 undef = .pointer (some ⟨g, 0, none⟩)) (hg : w.heap[g]? = some (.cells #[a, b, c, d, e, f] t fr)) :
    (results fn tmps).run Try.prog w = .ok (.tuple #[.agg #[a, b, c, d, e, f], tmps.getD 3 undef]) w :=
  results_row_tmp h tmps w g t #[a, b, c, d, e, f] fr _ hp hg Try.underlying82 (by rfl) (by kernel_rfl)
theorem ext_row6 {w w2 : World} {g : Nat} (h : Ext w w2) (hg : w.heap.size ≤ g) (a b c d x y : Value) : Ext w ((((((w2.setCell ⟨g, 0, none⟩ a).setCell ⟨g, 1, none⟩ b).setCell ⟨g, 2, none⟩ c).setCell ⟨g, 3, none⟩ d).setCell ⟨g, 4, none⟩ x).setCell ⟨g, 5, none⟩ y) :=
  ext_grown h (grown6 w2 g a b c d x y) hg
set_option maxHeartbeats 1000000 in
theorem readRep_good (w : World) (A : Option Addr) (n c : Nat) (ys : List Nat) (e l t s m : Nat) (gb : Bool) (hr : Rd w A (vals .u8 ys))
    (hC : ∀ W g, Rd W A (vals .u8 ys) → w.heap.size ≤ W.heap.size → w.heap.size ≤ g → g < W.heap.size → W.heap[g]? = some (.cells repZ 82 (0, 0)) → Calls Try.prog 70 #[.slice A n c, .func (.func 74) #[] #[.pointer (some ⟨g, 0, none⟩)]] W fun x w' => x = .returned (.int .i64 0) ∧ W.grownBy w' (some g) ∧ w'.heap[g]? = some (.cells #[.int .i64 (e : Int), .bool gb, .int .i64 (l : Int), .int .i64 (t : Int), .int .i64 (s : Int), .int .i64 (m : Int)] 82 (0, 0))) :
    Calls Try.prog 48 #[.slice A n c] w (RetE (.tuple #[repV (e : Int) gb (l : Int) (t : Int) (s : Int) (m : Int), .int .i64 0]) w) := by
  have hmf : ∀ (fn : Fn) (first cap : Array Value) (w : World), (Instr.makeFunc fn first cap).run Try.prog w = .ok (.func fn first cap) w := fun _ _ _ _ => rfl
  have HC := Lib.hid hC; have Hr := Lib.hid hr; clear hC hr
  go_enter Try.func48, Try.ntmps48
  go_wp2_with fail
  refine (HC.out _ (w.heap.size + 1) ((Hr.out.alloc _).alloc _) (by simp; omega) (by omega) (by simp) (blk_newk _ _ (by simp))).mono ?_
  rintro x w2 ⟨rfl, hG, hc⟩
  have K := Lib.hid (blk_grown (blk_past (blk_new w (.cells repZ 82 (0, 0))) _) hG (by omega))
  have hx := ext_grown (((Ext.refl w).alloc _).alloc _) hG (by omega)
  have KC := Lib.hid hc
  clear hG hc
  have k0 := blk_cell K.out 0; have k1 := blk_cell K.out 1; have k2 := blk_cell K.out 2; have k3 := blk_cell K.out 3; have k4 := blk_cell K.out 4; have k5 := blk_cell K.out 5
  have f0 := blk_frozen K.out 0; have f1 := blk_frozen K.out 1; have f2 := blk_frozen K.out 2; have f3 := blk_frozen K.out 3; have f4 := blk_frozen K.out 4; have f5 := blk_frozen K.out 5
  have c0 := blk_cell KC.out 0; have c1 := blk_cell KC.out 1; have c2 := blk_cell KC.out 2; have c3 := blk_cell KC.out 3; have c4 := blk_cell KC.out 4; have c5 := blk_cell KC.out 5
  go_wp2_with fail
  refine bodyPost_ret (ret_rep2 rfl rfl (row6 K.out _ _ _ _ _ _)) rfl ?_
  exact ⟨rfl, ext_row6 hx (Nat.le_refl _) _ _ _ _ _ _⟩
theorem readRep_ok (w : World) (A : Option Addr) (n c e l t s m : Nat) (gb : Bool) (hn : n = 34) (hnc : n ≤ c) (he : e ≤ 16) (hl : l ≤ 4611686018427387903) (ht : t ≤ 4611686018427387903) (hs : s ≤ 4611686018427387903) (hm : m ≤ 4611686018427387903) (hr : Rd w A (vals .u8 (repB e gb [l, t, s, m]))) :
    Calls Try.prog 48 #[.slice A n c] w (RetE (.tuple #[repV (e : Int) gb (l : Int) (t : Int) (s : Int) (m : Int), .int .i64 0]) w) := by
  have hlen : (repB e gb [l, t, s, m]).length = n := by rw [hn]; exact repB_len e gb [l, t, s, m]
  refine readRep_good w A n c _ e l t s m gb hr fun W g hR hs1 hs2 hs3 hc => ?_
  refine (read_goodP W A n c g 82 (fun _ _ => #[.int .i64 (e : Int), .bool gb, .int .i64 (l : Int), .int .i64 (t : Int), .int .i64 (s : Int), .int .i64 (m : Int)]) _ [] hlen (by omega) hnc hR hs3 w.heap.size hs1 (rd_blk hr) fun W' r hI hrr hgW hss => byRep W' r w.heap.size g e l t s m gb (by omega) he hl ht hs hm [] (by simp) (by rw [List.append_nil]; exact hI) hs2 (by omega) (by omega) (hgW.trans hc)).mono ?_
  rintro x w' ⟨_, _, he, hg, hcs, _⟩
  exact ⟨he, hg, hcs⟩
end Go.Proofs.Ytkebkhgjoiiapaa
