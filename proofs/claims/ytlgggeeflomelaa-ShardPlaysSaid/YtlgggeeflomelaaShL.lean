/- law 14: fit. -/
import Derived.Test.YtlgggeeflomelaaShK
import Derived.Test.YtlgggeeflomelaaFrame8
import Derived.Test.YtlgggeeflomelaaNum3
namespace Go.Proofs.Ytlgggeeflomelaa
open Go.RowKit

def fitWho (a : Int) : Nat := (a % 18446744073709551616 % 4).toNat
def fitOp (o : Nat) : Nat := if 4 < o then 1 + o % 4 else o
def fitVal (v : Int) : Int := min (max v 0) 4611686018427387903
theorem fitWho_lt (a : Int) : fitWho a < 4 := by unfold fitWho; omega
theorem fitOp_le (o : Nat) : fitOp o ≤ 4 := by unfold fitOp; split <;> omega
theorem fitVal_ok (v : Int) : 0 ≤ fitVal v ∧ fitVal v ≤ 4611686018427387903 := by unfold fitVal; omega
theorem rd_take3 {w : World} {A : Option Addr} {xs : List Nat} (n : Nat) (h : Rd w A (vals .u8 xs)) : Rd w A (vals .u8 (xs.take n)) := by
  have := List.take_append_drop n xs
  rw [← this] at h
  exact rd_take h
/-- the pick that fits -/
def FitR (r : PickR) (w : World) (e : Ending) (w' : World) : Prop :=
  ∃ K c m, e = .returned (.agg #[.int .i64 (fitWho r.who : Int), .int .u8 (fitOp r.op : Int), .slice K m c, .int .i64 (fitVal r.val)]) ∧ (r.key.take 3).length = m ∧ K = r.K ∧ Ext w w'
/-- it, and the room behind the key is the same -/
def FitR2 (r : PickR) (w : World) (e : Ending) (w' : World) : Prop :=
  ∃ K c m, e = .returned (.agg #[.int .i64 (fitWho r.who : Int), .int .u8 (fitOp r.op : Int), .slice K m c, .int .i64 (fitVal r.val)]) ∧ (r.key.take 3).length = m ∧ K = r.K ∧ Ext w w' ∧ c = r.cap
theorem fit_new (w : World) (q o m c : Nat) (K : Option Addr) (v : Int) : ∀ W, (w.alloc (.cells #[.int .i64 (q : Int), .int .u8 (o : Int), .slice K m c, .int .i64 v] 70)).alloc (.cells #[.int .i64 0, .int .u8 0, .slice none 0 0, .int .i64 0] 70) = W →
    Ext w W ∧ W.heap[w.heap.size]? = some (.cells #[.int .i64 (q : Int), .int .u8 (o : Int), .slice K m c, .int .i64 v] 70 (0, 0)) ∧ W.heap[w.heap.size + 1]? = some (.cells #[.int .i64 0, .int .u8 0, .slice none 0 0, .int .i64 0] 70 (0, 0)) := fun W hW => by
  rw [← hW]
  exact ⟨((Ext.refl w).alloc _).alloc _, blk_past (blk_new w _) _, blk_newk _ _ (by simp)⟩
theorem fit_fin {w w2 w6 : World} {a v : Int} {o q p n c m : Nat} {K : Option Addr} {key : List Nat} (hq : fitWho a = q) (hp : fitOp o = p) (hl : key.length = n) (hm : min n 3 = m) (x2 : Ext w w2) (g : GB w2 w6 (fun i => i = w.heap.size ∨ i = w.heap.size + 1)) :
    FitR2 ⟨a, o, K, c, key, v⟩ w (.returned (.agg #[.int .i64 (q : Int), .int .u8 (p : Int), .slice K m c, .int .i64 (min (max v 0) 4611686018427387903)])) w6 := by
  subst hq hp
  have x6 : Ext w w6 := g.to_ext x2 (fun i hi => by omega)
  exact ⟨K, c, m, rfl, by rw [List.length_take]; dsimp only; omega, rfl, x6, rfl⟩
theorem op_big {o p : Nat} (h : 4 < o) (hp : 1 + o % 4 = p) : fitOp o = p := by unfold fitOp; rw [if_pos h]; exact hp
theorem op_small {o : Nat} (h : ¬ 4 < o) : fitOp o = o := by unfold fitOp; rw [if_neg h]
set_option maxHeartbeats 2000000 in
set_option maxRecDepth 100000 in
theorem fit_any2 (w : World) (a v : Int) (o n c m : Nat) (K : Option Addr) (key : List Nat) (h3 : v ≤ 9223372036854775807) (ho : o < 256) (hl : key.length = n) (hnc : n ≤ c) (hcm : c ≤ 9223372036854775807) (hm : min n 3 = m) :
    Calls Try.prog 34 #[.agg #[.int .i64 a, .int .u8 (o : Int), .slice K n c, .int .i64 v]] w (FitR2 ⟨a, o, K, c, key, v⟩ w) := by
  have CL := Lib.hid (fun u => rclamp_any v u h3)
  have hw1 : IntKind.u64.wrap a = a % 18446744073709551616 := by rw [IntKind.wrap_u64]
  obtain ⟨q, hq⟩ : ∃ q : Nat, a % 18446744073709551616 % 4 = (q : Int) := ⟨(a % 18446744073709551616 % 4).toNat, by omega⟩
  have hq4 : q < 4 := by omega
  have hw2 : IntKind.i64.wrap (q : Int) = (q : Int) := by rw [IntKind.wrap_i64]; omega
  have Hq := Lib.hid (show fitWho a = q by unfold fitWho; omega)
  have Hl := Lib.hid hl; have Hm := Lib.hid hm
  clear hl h3
  by_cases hn : n < 3
  · obtain rfl : m = n := by omega
    have hn' : (m : Int) < 3 := by omega
    have hn2 : (m : Int) ≤ 3 := by omega
    have hn3 : min (m : Int) 3 = (m : Int) := by omega
    have HF := Lib.hid (fit_new w q o m c K v)
    go_enter Try.func34, Try.ntmps34
    go_upto_region 3 with fail
    obtain ⟨W, hW⟩ : ∃ W, (w.alloc (.cells #[.int .i64 (q : Int), .int .u8 (o : Int), .slice K m c, .int .i64 v] 70)).alloc (.cells #[.int .i64 0, .int .u8 0, .slice none 0 0, .int .i64 0] 70) = W := ⟨_, rfl⟩
    obtain ⟨xW, KB, KZ⟩ := HF.out W hW
    have XW := Lib.hid xW; have HKB := Lib.hid KB; have HKZ := Lib.hid KZ
    clear xW KB KZ
    rw [hW]
    have c3 : W.cell? ⟨w.heap.size, 3, none⟩ = some (.int .i64 v) := blk_cell HKB.out 3
    clear hW
    go_wp2_with fail
    refine (CL.out W).mono ?_
    rintro e w2 ⟨rfl, x2⟩
    have KB2 := Lib.hid (blk_ext HKB.out x2)
    have KZ2 := Lib.hid (blk_ext HKZ.out x2)
    have X2 := Lib.hid (XW.out.trans x2)
    have a0 : w2.cell? ⟨w.heap.size, 0, none⟩ = some (.int .i64 (q : Int)) := blk_cell KB2.out 0
    have a1 : w2.cell? ⟨w.heap.size, 1, none⟩ = some (.int .u8 (o : Int)) := blk_cell KB2.out 1
    have a2 : w2.cell? ⟨w.heap.size, 2, none⟩ = some (.slice K m c) := blk_cell KB2.out 2
    have a3 : w2.cell? ⟨w.heap.size, 3, none⟩ = some (.int .i64 v) := blk_cell KB2.out 3
    have b0 : w2.cell? ⟨w.heap.size + 1, 0, none⟩ = some (.int .i64 0) := blk_cell KZ2.out 0
    have b1 : w2.cell? ⟨w.heap.size + 1, 1, none⟩ = some (.int .u8 0) := blk_cell KZ2.out 1
    have b2 : w2.cell? ⟨w.heap.size + 1, 2, none⟩ = some (.slice none 0 0) := blk_cell KZ2.out 2
    have b3 : w2.cell? ⟨w.heap.size + 1, 3, none⟩ = some (.int .i64 0) := blk_cell KZ2.out 3
    have y1 := blk_frozen KB2.out 1; have y3 := blk_frozen KB2.out 3
    have z0 := blk_frozen KZ2.out 0; have z1 := blk_frozen KZ2.out 1; have z2 := blk_frozen KZ2.out 2; have z3 := blk_frozen KZ2.out 3
    clear x2 c3
    by_cases h4 : 4 < o
    · have h4' : (4 : Int) < (o : Int) := by omega
      obtain ⟨p, hp⟩ : ∃ p, 1 + o % 4 = p := ⟨_, rfl⟩
      have hp' : (1 : Int) + (o : Int) % 4 = (p : Int) := by omega
      have hw3 : IntKind.u8.wrap (p : Int) = (p : Int) := by rw [IntKind.wrap_u8]; omega
      go_wp2_with fail
      refine bodyPost_ret (results_cell_row (p := 2) rfl _ _ (w.heap.size + 1) _ #[.int .i64 (q : Int), .int .u8 (p : Int), .slice K m c, .int .i64 (min (max v 0) 4611686018427387903)] (0, 0) _ rfl (row4 (blk_grown (blk_grown KZ2.out (grown_set w2 w.heap.size 3 (.int .i64 (min (max v 0) 4611686018427387903))) (by omega)) (grown_set _ w.heap.size 1 (.int .u8 (p : Int))) (by omega)) _ _ _ _) Try.underlying70 (by rfl) (by kernel_rfl)) rfl ?_
      exact fit_fin Hq.out (op_big h4 hp) Hl.out Hm.out X2.out (((((((GB.refl w2 (fun i => i = w.heap.size ∨ i = w.heap.size + 1)).set w.heap.size 3 (.int .i64 (min (max v 0) 4611686018427387903)) (.inl (.inl rfl))).set w.heap.size 1 (.int .u8 (p : Int)) (.inl (.inl rfl))).set (w.heap.size + 1) 0 _ (.inl (.inr rfl))).set (w.heap.size + 1) 1 _ (.inl (.inr rfl))).set (w.heap.size + 1) 2 _ (.inl (.inr rfl))).set (w.heap.size + 1) 3 _ (.inl (.inr rfl)))
    · have h4' : ¬ (4 : Int) < (o : Int) := by omega
      go_wp2_with fail
      refine bodyPost_ret (results_cell_row (p := 2) rfl _ _ (w.heap.size + 1) _ #[.int .i64 (q : Int), .int .u8 (o : Int), .slice K m c, .int .i64 (min (max v 0) 4611686018427387903)] (0, 0) _ rfl (row4 (blk_grown KZ2.out (grown_set w2 w.heap.size 3 (.int .i64 (min (max v 0) 4611686018427387903))) (by omega)) _ _ _ _) Try.underlying70 (by rfl) (by kernel_rfl)) rfl ?_
      exact fit_fin Hq.out (op_small h4) Hl.out Hm.out X2.out ((((((GB.refl w2 (fun i => i = w.heap.size ∨ i = w.heap.size + 1)).set w.heap.size 3 (.int .i64 (min (max v 0) 4611686018427387903)) (.inl (.inl rfl))).set (w.heap.size + 1) 0 _ (.inl (.inr rfl))).set (w.heap.size + 1) 1 _ (.inl (.inr rfl))).set (w.heap.size + 1) 2 _ (.inl (.inr rfl))).set (w.heap.size + 1) 3 _ (.inl (.inr rfl)))
  · obtain rfl : m = 3 := by omega
    have hn' : ¬ (n : Int) < 3 := by omega
    have hn3 : min (n : Int) 3 = 3 := by omega
    have HF := Lib.hid (fit_new w q o 3 c K v)
    go_enter Try.func34, Try.ntmps34
    go_upto_region 3 with fail
    obtain ⟨W, hW⟩ : ∃ W, (w.alloc (.cells #[.int .i64 (q : Int), .int .u8 (o : Int), .slice K 3 c, .int .i64 v] 70)).alloc (.cells #[.int .i64 0, .int .u8 0, .slice none 0 0, .int .i64 0] 70) = W := ⟨_, rfl⟩
    obtain ⟨xW, KB, KZ⟩ := HF.out W hW
    have XW := Lib.hid xW; have HKB := Lib.hid KB; have HKZ := Lib.hid KZ
    clear xW KB KZ
    rw [hW]
    have c3 : W.cell? ⟨w.heap.size, 3, none⟩ = some (.int .i64 v) := blk_cell HKB.out 3
    clear hW
    go_wp2_with fail
    refine (CL.out W).mono ?_
    rintro e w2 ⟨rfl, x2⟩
    have KB2 := Lib.hid (blk_ext HKB.out x2)
    have KZ2 := Lib.hid (blk_ext HKZ.out x2)
    have X2 := Lib.hid (XW.out.trans x2)
    have a0 : w2.cell? ⟨w.heap.size, 0, none⟩ = some (.int .i64 (q : Int)) := blk_cell KB2.out 0
    have a1 : w2.cell? ⟨w.heap.size, 1, none⟩ = some (.int .u8 (o : Int)) := blk_cell KB2.out 1
    have a2 : w2.cell? ⟨w.heap.size, 2, none⟩ = some (.slice K 3 c) := blk_cell KB2.out 2
    have a3 : w2.cell? ⟨w.heap.size, 3, none⟩ = some (.int .i64 v) := blk_cell KB2.out 3
    have b0 : w2.cell? ⟨w.heap.size + 1, 0, none⟩ = some (.int .i64 0) := blk_cell KZ2.out 0
    have b1 : w2.cell? ⟨w.heap.size + 1, 1, none⟩ = some (.int .u8 0) := blk_cell KZ2.out 1
    have b2 : w2.cell? ⟨w.heap.size + 1, 2, none⟩ = some (.slice none 0 0) := blk_cell KZ2.out 2
    have b3 : w2.cell? ⟨w.heap.size + 1, 3, none⟩ = some (.int .i64 0) := blk_cell KZ2.out 3
    have y1 := blk_frozen KB2.out 1; have y3 := blk_frozen KB2.out 3
    have z0 := blk_frozen KZ2.out 0; have z1 := blk_frozen KZ2.out 1; have z2 := blk_frozen KZ2.out 2; have z3 := blk_frozen KZ2.out 3
    clear x2 c3
    by_cases h4 : 4 < o
    · have h4' : (4 : Int) < (o : Int) := by omega
      obtain ⟨p, hp⟩ : ∃ p, 1 + o % 4 = p := ⟨_, rfl⟩
      have hp' : (1 : Int) + (o : Int) % 4 = (p : Int) := by omega
      have hw3 : IntKind.u8.wrap (p : Int) = (p : Int) := by rw [IntKind.wrap_u8]; omega
      go_wp2_with fail
      refine bodyPost_ret (results_cell_row (p := 2) rfl _ _ (w.heap.size + 1) _ #[.int .i64 (q : Int), .int .u8 (p : Int), .slice K 3 c, .int .i64 (min (max v 0) 4611686018427387903)] (0, 0) _ rfl (row4 (blk_grown (blk_grown KZ2.out (grown_set w2 w.heap.size 3 (.int .i64 (min (max v 0) 4611686018427387903))) (by omega)) (grown_set _ w.heap.size 1 (.int .u8 (p : Int))) (by omega)) _ _ _ _) Try.underlying70 (by rfl) (by kernel_rfl)) rfl ?_
      exact fit_fin Hq.out (op_big h4 hp) Hl.out Hm.out X2.out (((((((GB.refl w2 (fun i => i = w.heap.size ∨ i = w.heap.size + 1)).set w.heap.size 3 (.int .i64 (min (max v 0) 4611686018427387903)) (.inl (.inl rfl))).set w.heap.size 1 (.int .u8 (p : Int)) (.inl (.inl rfl))).set (w.heap.size + 1) 0 _ (.inl (.inr rfl))).set (w.heap.size + 1) 1 _ (.inl (.inr rfl))).set (w.heap.size + 1) 2 _ (.inl (.inr rfl))).set (w.heap.size + 1) 3 _ (.inl (.inr rfl)))
    · have h4' : ¬ (4 : Int) < (o : Int) := by omega
      go_wp2_with fail
      refine bodyPost_ret (results_cell_row (p := 2) rfl _ _ (w.heap.size + 1) _ #[.int .i64 (q : Int), .int .u8 (o : Int), .slice K 3 c, .int .i64 (min (max v 0) 4611686018427387903)] (0, 0) _ rfl (row4 (blk_grown KZ2.out (grown_set w2 w.heap.size 3 (.int .i64 (min (max v 0) 4611686018427387903))) (by omega)) _ _ _ _) Try.underlying70 (by rfl) (by kernel_rfl)) rfl ?_
      exact fit_fin Hq.out (op_small h4) Hl.out Hm.out X2.out ((((((GB.refl w2 (fun i => i = w.heap.size ∨ i = w.heap.size + 1)).set w.heap.size 3 (.int .i64 (min (max v 0) 4611686018427387903)) (.inl (.inl rfl))).set (w.heap.size + 1) 0 _ (.inl (.inr rfl))).set (w.heap.size + 1) 1 _ (.inl (.inr rfl))).set (w.heap.size + 1) 2 _ (.inl (.inr rfl))).set (w.heap.size + 1) 3 _ (.inl (.inr rfl)))
theorem fit_any (w : World) (a v : Int) (o n c m : Nat) (K : Option Addr) (key : List Nat) (h3 : v ≤ 9223372036854775807) (ho : o < 256) (hl : key.length = n) (hnc : n ≤ c) (hcm : c ≤ 9223372036854775807) (hm : min n 3 = m) :
    Calls Try.prog 34 #[.agg #[.int .i64 a, .int .u8 (o : Int), .slice K n c, .int .i64 v]] w (FitR ⟨a, o, K, c, key, v⟩ w) := by
  refine (fit_any2 w a v o n c m K key h3 ho hl hnc hcm hm).mono ?_
  rintro e w' ⟨K', c', m', h1, h2, h3, h4, -⟩
  exact ⟨K', c', m', h1, h2, h3, h4⟩
end Go.Proofs.Ytlgggeeflomelaa
