/- the document's DocReply. -/
import Derived.Test.YtkebkhgjoiiapaaReply
namespace Go.Proofs.Ytkebkhgjoiiapaa
open Go.RowKit

theorem docReply_e (w : World) (e : Int) (g : Bool) (l t s n : Int) (h : e < 0 ∨ 16 < e) : Calls Try.prog 47 #[repV e g l t s n] w (RetBE [] 1 w) := by
  rcases h with h | h
  · go_enter Try.func47, Try.ntmps47
    go_wp2_with fail
    go_ret2
    exact retBE_none ⟨rfl, (Ext.refl w).alloc _⟩
  · have h' : ¬ e < 0 := by omega
    go_enter Try.func47, Try.ntmps47
    go_wp2_with fail
    go_ret2
    exact retBE_none ⟨rfl, (Ext.refl w).alloc _⟩
theorem docReply_n (w : World) (e : Int) (g : Bool) (l t s n : Int) (h0 : 0 ≤ e) (h16 : e ≤ 16) (h : ¬ (okN l ∧ okN t ∧ okN s ∧ okN n)) : Calls Try.prog 47 #[repV e g l t s n] w (RetBE [] 1 w) := by
  unfold okN at h
  by_cases hl : l < 0 ∨ 4611686018427387903 < l
  · clear h
    go_enter Try.func47, Try.ntmps47
    go_wp2_with fail
    refine (refForm_bad l _ hl).mono ?_
    rintro e' w1 ⟨rfl, rfl⟩
    go_wp2_with fail
    go_ret2
    exact retBE_none ⟨rfl, (Ext.refl w).alloc _⟩
  have l1 : 0 ≤ l := by omega
  have l2 : l ≤ 4611686018427387903 := by omega
  by_cases ht : t < 0 ∨ 4611686018427387903 < t
  · clear h
    go_enter Try.func47, Try.ntmps47
    go_wp2_with fail
    refine (refForm_ok l _ l1 l2).mono ?_
    rintro e' w1 ⟨rfl, rfl⟩
    go_wp2_with fail
    refine (refForm_bad t _ ht).mono ?_
    rintro e' w1 ⟨rfl, rfl⟩
    go_wp2_with fail
    go_ret2
    exact retBE_none ⟨rfl, (Ext.refl w).alloc _⟩
  have t1 : 0 ≤ t := by omega
  have t2 : t ≤ 4611686018427387903 := by omega
  by_cases hs : s < 0 ∨ 4611686018427387903 < s
  · clear h
    go_enter Try.func47, Try.ntmps47
    go_wp2_with fail
    refine (refForm_ok l _ l1 l2).mono ?_
    rintro e' w1 ⟨rfl, rfl⟩
    go_wp2_with fail
    refine (refForm_ok t _ t1 t2).mono ?_
    rintro e' w1 ⟨rfl, rfl⟩
    go_wp2_with fail
    refine (refForm_bad s _ hs).mono ?_
    rintro e' w1 ⟨rfl, rfl⟩
    go_wp2_with fail
    go_ret2
    exact retBE_none ⟨rfl, (Ext.refl w).alloc _⟩
  have s1 : 0 ≤ s := by omega
  have s2 : s ≤ 4611686018427387903 := by omega
  have hn : n < 0 ∨ 4611686018427387903 < n := by omega
  clear h
  go_enter Try.func47, Try.ntmps47
  go_wp2_with fail
  refine (refForm_ok l _ l1 l2).mono ?_
  rintro e' w1 ⟨rfl, rfl⟩
  go_wp2_with fail
  refine (refForm_ok t _ t1 t2).mono ?_
  rintro e' w1 ⟨rfl, rfl⟩
  go_wp2_with fail
  refine (refForm_ok s _ s1 s2).mono ?_
  rintro e' w1 ⟨rfl, rfl⟩
  go_wp2_with fail
  refine (refForm_bad n _ hn).mono ?_
  rintro e' w1 ⟨rfl, rfl⟩
  go_wp2_with fail
  go_ret2
  exact retBE_none ⟨rfl, (Ext.refl w).alloc _⟩
/-- a reply's cells -/
theorem repBlk {w w' : World} {c : Array Value} {t : TypeId} (hx : Ext (w.alloc (.cells c t)) w') : w'.heap[w.heap.size]? = some (.cells c t (0, 0)) := blk_ext (blk_new w _) hx

set_option maxHeartbeats 4000000 in
set_option maxRecDepth 100000 in
theorem docReply_false (w : World) (e l t s n : Nat) (he : e ≤ 16) (hl : l ≤ 4611686018427387903) (ht : t ≤ 4611686018427387903) (hs : s ≤ 4611686018427387903) (hn : n ≤ 4611686018427387903) :
    Calls Try.prog 47 #[repV (e : Int) false (l : Int) (t : Int) (s : Int) (n : Int)] w (RetBE (repB e false [l, t, s, n]) 0 w) := by
  have hw : IntKind.u8.wrap (e : Int) = (e : Int) := by rw [IntKind.wrap_u8]; omega
  go_enter Try.func47, Try.ntmps47
  go_wp2_with fail
  refine (refForm_ok (l : Int) _ (by omega) (by omega)).mono ?_
  rintro e' w1 ⟨rfl, rfl⟩
  go_wp2_with fail
  refine (refForm_ok (t : Int) _ (by omega) (by omega)).mono ?_
  rintro e' w1 ⟨rfl, rfl⟩
  go_wp2_with fail
  refine (refForm_ok (s : Int) _ (by omega) (by omega)).mono ?_
  rintro e' w1 ⟨rfl, rfl⟩
  go_wp2_with fail
  refine (refForm_ok (n : Int) _ (by omega) (by omega)).mono ?_
  rintro e' w1 ⟨rfl, rfl⟩
  go_wp2_with fail
  refine (docWord_any _ l 8 (by omega) (by omega)).mono ?_
  rintro e' w1 ⟨A1, c1, rfl, hw1, hy1⟩
  rw [wordB_len] at hw1 ⊢
  have R1 := Lib.hid (Rd.of_own hw1)
  have O0 := Lib.hid (own_ext (own_madek (w.alloc (.cells #[.int .i64 (e : Int), .bool false, .int .i64 (l : Int), .int .i64 (t : Int), .int .i64 (s : Int), .int .i64 (n : Int)] 82)) [.int .u8 (e : Int), .int .u8 0] 5 1 2 rfl (by unfold maxLen; omega) (by simp) (Nat.le_refl (w.heap.size + 1))) hy1)
  have K1 := Lib.hid (blk_ext (blk_past (blk_new w _) _) hy1)
  have hx1 : Ext w w1 := (((Ext.refl w).alloc _).alloc _).trans hy1
  have hs1 : w.heap.size + 1 ≤ w1.heap.size := blk_lt K1.out
  clear hw1 hy1
  have a3 := blk_cell K1.out 3
  have o1 : w1.ownsRow (w.heap.size + 1) 5 1 (.slice (some ⟨w.heap.size + 1, 0, none⟩) 2 2) 2 (vals .u8 [e, 0]) := O0.out
  go_wp2_with (first | (at_builtin; refine app_u8 _ rfl (.tmp 48) (.tmp 52) rfl (w.heap.size + 1) rfl o1 rfl (wordB_len l 8) R1.out (by omega) hs1 ?_; intro B1 d1 v1 hown1 hgrow1 _; have hv1 : Ext w v1 := hx1.grown hgrow1 (fun q hq => by have := own_ge o1 q hq; omega); have KK1 : Hid (v1.heap[w.heap.size]? = some (.cells #[.int .i64 (e : Int), .bool false, .int .i64 (l : Int), .int .i64 (t : Int), .int .i64 (s : Int), .int .i64 (n : Int)] 82 (0, 0))) := (hgrow1.block _ (blk_lt K1.out) (fun h => by have := own_ge o1 _ h.symm; omega)).trans K1.out; have q1 := blk_cell KK1.out 3) | fail)
  have HO1 := Lib.hid hown1
  clear hown1 hgrow1 o1
  refine (docWord_any v1 t 8 (by omega) (by omega)).mono ?_
  rintro e' w2 ⟨A2, c2, rfl, hw2, hy2⟩
  rw [wordB_len] at hw2 ⊢
  have R2 := Lib.hid (Rd.of_own hw2)
  have O1 := Lib.hid (own_ext HO1.out hy2)
  have K2 := Lib.hid (blk_ext KK1.out hy2)
  have hx2 : Ext w w2 := hv1.trans hy2
  have hs2 : w.heap.size + 1 ≤ w2.heap.size := blk_lt K2.out
  clear hw2 hy2 q1
  have b2 := blk_cell K2.out 4
  have o2 : w2.ownsRow (w.heap.size + 1) 5 1 (.slice B1 10 d1) 10 (vals .u8 ([e, 0] ++ wordB l 8)) := O1.out
  go_wp2_with (first | (at_builtin; refine app_u8 _ rfl (.tmp 54) (.tmp 58) rfl (w.heap.size + 1) rfl o2 rfl (wordB_len t 8) R2.out (by omega) hs2 ?_; intro B2 d2 v2 hown2 hgrow2 _; have hv2 : Ext w v2 := hx2.grown hgrow2 (fun q hq => by have := own_ge o2 q hq; omega); have KK2 : Hid (v2.heap[w.heap.size]? = some (.cells #[.int .i64 (e : Int), .bool false, .int .i64 (l : Int), .int .i64 (t : Int), .int .i64 (s : Int), .int .i64 (n : Int)] 82 (0, 0))) := (hgrow2.block _ (blk_lt K2.out) (fun h => by have := own_ge o2 _ h.symm; omega)).trans K2.out; have q2 := blk_cell KK2.out 4) | fail)
  have HO2 := Lib.hid hown2
  clear hown2 hgrow2 o2
  refine (docWord_any v2 s 8 (by omega) (by omega)).mono ?_
  rintro e' w3 ⟨A3, c3, rfl, hw3, hy3⟩
  rw [wordB_len] at hw3 ⊢
  have R3 := Lib.hid (Rd.of_own hw3)
  have O2 := Lib.hid (own_ext HO2.out hy3)
  have K3 := Lib.hid (blk_ext KK2.out hy3)
  have hx3 : Ext w w3 := hv2.trans hy3
  have hs3 : w.heap.size + 1 ≤ w3.heap.size := blk_lt K3.out
  clear hw3 hy3 q2
  have b3 := blk_cell K3.out 5
  have o3 : w3.ownsRow (w.heap.size + 1) 5 1 (.slice B2 18 d2) 18 (vals .u8 ([e, 0] ++ wordB l 8 ++ wordB t 8)) := O2.out
  go_wp2_with (first | (at_builtin; refine app_u8 _ rfl (.tmp 60) (.tmp 64) rfl (w.heap.size + 1) rfl o3 rfl (wordB_len s 8) R3.out (by omega) hs3 ?_; intro B3 d3 v3 hown3 hgrow3 _; have hv3 : Ext w v3 := hx3.grown hgrow3 (fun q hq => by have := own_ge o3 q hq; omega); have KK3 : Hid (v3.heap[w.heap.size]? = some (.cells #[.int .i64 (e : Int), .bool false, .int .i64 (l : Int), .int .i64 (t : Int), .int .i64 (s : Int), .int .i64 (n : Int)] 82 (0, 0))) := (hgrow3.block _ (blk_lt K3.out) (fun h => by have := own_ge o3 _ h.symm; omega)).trans K3.out; have q3 := blk_cell KK3.out 5) | fail)
  have HO3 := Lib.hid hown3
  clear hown3 hgrow3 o3
  refine (docWord_any v3 n 8 (by omega) (by omega)).mono ?_
  rintro e' w4 ⟨A4, c4, rfl, hw4, hy4⟩
  rw [wordB_len] at hw4 ⊢
  have R4 := Lib.hid (Rd.of_own hw4)
  have O3 := Lib.hid (own_ext HO3.out hy4)
  have K4 := Lib.hid (blk_ext KK3.out hy4)
  have hx4 : Ext w w4 := hv3.trans hy4
  have hs4 : w.heap.size + 1 ≤ w4.heap.size := blk_lt K4.out
  clear hw4 hy4 q3
  have b4 := blk_cell K4.out 5
  have o4 : w4.ownsRow (w.heap.size + 1) 5 1 (.slice B3 26 d3) 26 (vals .u8 ([e, 0] ++ wordB l 8 ++ wordB t 8 ++ wordB s 8)) := O3.out
  go_wp2_with (first | (at_builtin; refine app_u8 _ rfl (.tmp 66) (.tmp 70) rfl (w.heap.size + 1) rfl o4 rfl (wordB_len n 8) R4.out (by omega) hs4 ?_; intro B4 d4 v4 hown4 hgrow4 _; have hv4 : Ext w v4 := hx4.grown hgrow4 (fun q hq => by have := own_ge o4 q hq; omega); have KK4 : Hid (v4.heap[w.heap.size]? = some (.cells #[.int .i64 (e : Int), .bool false, .int .i64 (l : Int), .int .i64 (t : Int), .int .i64 (s : Int), .int .i64 (n : Int)] 82 (0, 0))) := (hgrow4.block _ (blk_lt K4.out) (fun h => by have := own_ge o4 _ h.symm; omega)).trans K4.out; have q4 := blk_cell KK4.out 5) | fail)
  go_ret2
  have hlen : (repB e false [l, t, s, n]).length = 34 := repB_len e false [l, t, s, n]
  refine retBE_of hlen ?_ hv4
  have e1 : repB e false [l, t, s, n] = [e, 0] ++ wordB l 8 ++ wordB t 8 ++ wordB s 8 ++ wordB n 8 := by simp [repB, words, oneIf]
  rw [e1]
  exact own_base hown4 (by omega)

set_option maxHeartbeats 4000000 in
set_option maxRecDepth 100000 in
theorem docReply_true (w : World) (e l t s n : Nat) (he : e ≤ 16) (hl : l ≤ 4611686018427387903) (ht : t ≤ 4611686018427387903) (hs : s ≤ 4611686018427387903) (hn : n ≤ 4611686018427387903) :
    Calls Try.prog 47 #[repV (e : Int) true (l : Int) (t : Int) (s : Int) (n : Int)] w (RetBE (repB e true [l, t, s, n]) 0 w) := by
  have hw : IntKind.u8.wrap (e : Int) = (e : Int) := by rw [IntKind.wrap_u8]; omega
  go_enter Try.func47, Try.ntmps47
  go_wp2_with fail
  refine (refForm_ok (l : Int) _ (by omega) (by omega)).mono ?_
  rintro e' w1 ⟨rfl, rfl⟩
  go_wp2_with fail
  refine (refForm_ok (t : Int) _ (by omega) (by omega)).mono ?_
  rintro e' w1 ⟨rfl, rfl⟩
  go_wp2_with fail
  refine (refForm_ok (s : Int) _ (by omega) (by omega)).mono ?_
  rintro e' w1 ⟨rfl, rfl⟩
  go_wp2_with fail
  refine (refForm_ok (n : Int) _ (by omega) (by omega)).mono ?_
  rintro e' w1 ⟨rfl, rfl⟩
  go_wp2_with fail
  refine (docWord_any _ l 8 (by omega) (by omega)).mono ?_
  rintro e' w1 ⟨A1, c1, rfl, hw1, hy1⟩
  rw [wordB_len] at hw1 ⊢
  have R1 := Lib.hid (Rd.of_own hw1)
  have O0 := Lib.hid (own_ext (own_madek (w.alloc (.cells #[.int .i64 (e : Int), .bool true, .int .i64 (l : Int), .int .i64 (t : Int), .int .i64 (s : Int), .int .i64 (n : Int)] 82)) [.int .u8 (e : Int), .int .u8 1] 5 1 2 rfl (by unfold maxLen; omega) (by simp) (Nat.le_refl (w.heap.size + 1))) hy1)
  have K1 := Lib.hid (blk_ext (blk_past (blk_new w _) _) hy1)
  have hx1 : Ext w w1 := (((Ext.refl w).alloc _).alloc _).trans hy1
  have hs1 : w.heap.size + 1 ≤ w1.heap.size := blk_lt K1.out
  clear hw1 hy1
  have a3 := blk_cell K1.out 3
  have o1 : w1.ownsRow (w.heap.size + 1) 5 1 (.slice (some ⟨w.heap.size + 1, 0, none⟩) 2 2) 2 (vals .u8 [e, 1]) := O0.out
  go_wp2_with (first | (at_builtin; refine app_u8 _ rfl (.tmp 48) (.tmp 52) rfl (w.heap.size + 1) rfl o1 rfl (wordB_len l 8) R1.out (by omega) hs1 ?_; intro B1 d1 v1 hown1 hgrow1 _; have hv1 : Ext w v1 := hx1.grown hgrow1 (fun q hq => by have := own_ge o1 q hq; omega); have KK1 : Hid (v1.heap[w.heap.size]? = some (.cells #[.int .i64 (e : Int), .bool true, .int .i64 (l : Int), .int .i64 (t : Int), .int .i64 (s : Int), .int .i64 (n : Int)] 82 (0, 0))) := (hgrow1.block _ (blk_lt K1.out) (fun h => by have := own_ge o1 _ h.symm; omega)).trans K1.out; have q1 := blk_cell KK1.out 3) | fail)
  have HO1 := Lib.hid hown1
  clear hown1 hgrow1 o1
  refine (docWord_any v1 t 8 (by omega) (by omega)).mono ?_
  rintro e' w2 ⟨A2, c2, rfl, hw2, hy2⟩
  rw [wordB_len] at hw2 ⊢
  have R2 := Lib.hid (Rd.of_own hw2)
  have O1 := Lib.hid (own_ext HO1.out hy2)
  have K2 := Lib.hid (blk_ext KK1.out hy2)
  have hx2 : Ext w w2 := hv1.trans hy2
  have hs2 : w.heap.size + 1 ≤ w2.heap.size := blk_lt K2.out
  clear hw2 hy2 q1
  have b2 := blk_cell K2.out 4
  have o2 : w2.ownsRow (w.heap.size + 1) 5 1 (.slice B1 10 d1) 10 (vals .u8 ([e, 1] ++ wordB l 8)) := O1.out
  go_wp2_with (first | (at_builtin; refine app_u8 _ rfl (.tmp 54) (.tmp 58) rfl (w.heap.size + 1) rfl o2 rfl (wordB_len t 8) R2.out (by omega) hs2 ?_; intro B2 d2 v2 hown2 hgrow2 _; have hv2 : Ext w v2 := hx2.grown hgrow2 (fun q hq => by have := own_ge o2 q hq; omega); have KK2 : Hid (v2.heap[w.heap.size]? = some (.cells #[.int .i64 (e : Int), .bool true, .int .i64 (l : Int), .int .i64 (t : Int), .int .i64 (s : Int), .int .i64 (n : Int)] 82 (0, 0))) := (hgrow2.block _ (blk_lt K2.out) (fun h => by have := own_ge o2 _ h.symm; omega)).trans K2.out; have q2 := blk_cell KK2.out 4) | fail)
  have HO2 := Lib.hid hown2
  clear hown2 hgrow2 o2
  refine (docWord_any v2 s 8 (by omega) (by omega)).mono ?_
  rintro e' w3 ⟨A3, c3, rfl, hw3, hy3⟩
  rw [wordB_len] at hw3 ⊢
  have R3 := Lib.hid (Rd.of_own hw3)
  have O2 := Lib.hid (own_ext HO2.out hy3)
  have K3 := Lib.hid (blk_ext KK2.out hy3)
  have hx3 : Ext w w3 := hv2.trans hy3
  have hs3 : w.heap.size + 1 ≤ w3.heap.size := blk_lt K3.out
  clear hw3 hy3 q2
  have b3 := blk_cell K3.out 5
  have o3 : w3.ownsRow (w.heap.size + 1) 5 1 (.slice B2 18 d2) 18 (vals .u8 ([e, 1] ++ wordB l 8 ++ wordB t 8)) := O2.out
  go_wp2_with (first | (at_builtin; refine app_u8 _ rfl (.tmp 60) (.tmp 64) rfl (w.heap.size + 1) rfl o3 rfl (wordB_len s 8) R3.out (by omega) hs3 ?_; intro B3 d3 v3 hown3 hgrow3 _; have hv3 : Ext w v3 := hx3.grown hgrow3 (fun q hq => by have := own_ge o3 q hq; omega); have KK3 : Hid (v3.heap[w.heap.size]? = some (.cells #[.int .i64 (e : Int), .bool true, .int .i64 (l : Int), .int .i64 (t : Int), .int .i64 (s : Int), .int .i64 (n : Int)] 82 (0, 0))) := (hgrow3.block _ (blk_lt K3.out) (fun h => by have := own_ge o3 _ h.symm; omega)).trans K3.out; have q3 := blk_cell KK3.out 5) | fail)
  have HO3 := Lib.hid hown3
  clear hown3 hgrow3 o3
  refine (docWord_any v3 n 8 (by omega) (by omega)).mono ?_
  rintro e' w4 ⟨A4, c4, rfl, hw4, hy4⟩
  rw [wordB_len] at hw4 ⊢
  have R4 := Lib.hid (Rd.of_own hw4)
  have O3 := Lib.hid (own_ext HO3.out hy4)
  have K4 := Lib.hid (blk_ext KK3.out hy4)
  have hx4 : Ext w w4 := hv3.trans hy4
  have hs4 : w.heap.size + 1 ≤ w4.heap.size := blk_lt K4.out
  clear hw4 hy4 q3
  have b4 := blk_cell K4.out 5
  have o4 : w4.ownsRow (w.heap.size + 1) 5 1 (.slice B3 26 d3) 26 (vals .u8 ([e, 1] ++ wordB l 8 ++ wordB t 8 ++ wordB s 8)) := O3.out
  go_wp2_with (first | (at_builtin; refine app_u8 _ rfl (.tmp 66) (.tmp 70) rfl (w.heap.size + 1) rfl o4 rfl (wordB_len n 8) R4.out (by omega) hs4 ?_; intro B4 d4 v4 hown4 hgrow4 _; have hv4 : Ext w v4 := hx4.grown hgrow4 (fun q hq => by have := own_ge o4 q hq; omega); have KK4 : Hid (v4.heap[w.heap.size]? = some (.cells #[.int .i64 (e : Int), .bool true, .int .i64 (l : Int), .int .i64 (t : Int), .int .i64 (s : Int), .int .i64 (n : Int)] 82 (0, 0))) := (hgrow4.block _ (blk_lt K4.out) (fun h => by have := own_ge o4 _ h.symm; omega)).trans K4.out; have q4 := blk_cell KK4.out 5) | fail)
  go_ret2
  have hlen : (repB e true [l, t, s, n]).length = 34 := repB_len e true [l, t, s, n]
  refine retBE_of hlen ?_ hv4
  have e1 : repB e true [l, t, s, n] = [e, 1] ++ wordB l 8 ++ wordB t 8 ++ wordB s 8 ++ wordB n 8 := by simp [repB, words, oneIf]
  rw [e1]
  exact own_base hown4 (by omega)
end Go.Proofs.Ytkebkhgjoiiapaa
