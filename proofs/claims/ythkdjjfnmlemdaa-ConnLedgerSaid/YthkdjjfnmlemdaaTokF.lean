/- token.Decode of bytes that are no token's. -/
import Derived.Test.YthkdjjfnmlemdaaTokP
import Derived.Test.YthkdjjfnmlemdaaTokD
namespace Go.Proofs.Ythkdjjfnmlemdaa
open Go.RowKit

theorem decode_few (w : World) (A : Option Addr) (n c : Nat) (hn : n < 16) :
    Calls Try.prog 32 #[.slice A n c] w (RetE (.tuple #[tokZ, .int .i64 3]) w) := by
  go_enter Try.func32, Try.ntmps32
  go_wp2_with fail
  refine bodyPost_ret (ret_tok rfl rfl (heap_alloc_new w _)) rfl ?_
  exact ⟨rfl, (Ext.refl w).alloc _⟩
/-- the first bytes -/
theorem heads {w : World} {A : Option Addr} {ys : List Nat} (hr : Rd w A (vals .u8 ys)) (hl : 4 ≤ ys.length) :
    ∃ b off y0 y1 y2 y3 : Nat, A = some ⟨b, off, none⟩ ∧ w.cell? ⟨b, off, none⟩ = some (.int .u8 (y0 : Int)) ∧ w.cell? ⟨b, off + 1, none⟩ = some (.int .u8 (y1 : Int)) ∧ w.cell? ⟨b, off + 2, none⟩ = some (.int .u8 (y2 : Int)) ∧ w.cell? ⟨b, off + 3, none⟩ = some (.int .u8 (y3 : Int)) ∧
      ys[0]? = some y0 ∧ ys[1]? = some y1 ∧ ys[2]? = some y2 ∧ ys[3]? = some y3 := by
  match ys, hl with
  | a :: b :: c :: d :: r, _ =>
    obtain ⟨bb, off, hA, hc⟩ := hr (by simp [vals])
    exact ⟨bb, off, a, b, c, d, hA, hc 0 _ rfl, hc 1 _ rfl, hc 2 _ rfl, hc 3 _ rfl, rfl, rfl, rfl, rfl⟩

set_option maxHeartbeats 2000000 in
theorem decode_bad1 (w : World) (b off n c y0 y1 y2 y3 : Nat) (hn : 16 ≤ n) (hn' : n ≤ 4096) (hy0 : y0 < 256) (hy1 : y1 < 256) (hy2 : y2 < 256) (hy3 : y3 < 256)
    (c0 : w.cell? ⟨b, off, none⟩ = some (.int .u8 (y0 : Int))) (c1 : w.cell? ⟨b, off + 1, none⟩ = some (.int .u8 (y1 : Int))) (c2 : w.cell? ⟨b, off + 2, none⟩ = some (.int .u8 (y2 : Int))) (c3 : w.cell? ⟨b, off + 3, none⟩ = some (.int .u8 (y3 : Int)))
    (h : y0 ≠ 83 ∨ y1 ≠ 71 ∨ 32 ≤ y2 ∨ n ≠ 4 + y3 + 12) :
    Calls Try.prog 32 #[.slice (some ⟨b, off, none⟩) n c] w (RetE (.tuple #[tokZ, .int .i64 3]) w) := by
  have d0 := cell_past c0; have d1 := cell_past c1; have d2 := cell_past c2; have d3 := cell_past c3
  clear c0 c1 c2 c3
  have q0 : y0 ≠ 83 → ((y0 : Int) != 83) = true := fun h => by simp; omega
  have q1 : y1 ≠ 71 → ((y1 : Int) != 71) = true := fun h => by simp; omega
  have q3 : n ≠ 4 + y3 + 12 → ((n : Int) != 4 + (y3 : Int) + 12) = true := fun h => by simp; omega
  by_cases h0 : y0 = 83
  · subst h0
    by_cases h1 : y1 = 71
    · subst h1
      by_cases h2 : 32 ≤ y2
      · clear q0 q1 q3 h
        go_enter Try.func32, Try.ntmps32
        go_wp2_with fail
        refine bodyPost_ret (ret_tok rfl rfl (heap_alloc_new w _)) rfl ?_
        exact ⟨rfl, (Ext.refl w).alloc _⟩
      · have h2' : y2 < 32 := by omega
        have hne := q3 (by omega)
        clear q0 q1 q3 h h2
        go_enter Try.func32, Try.ntmps32
        go_wp2_with fail
        refine bodyPost_ret (ret_tok rfl rfl (heap_alloc_new w _)) rfl ?_
        exact ⟨rfl, (Ext.refl w).alloc _⟩
    · have hne := q1 h1
      clear q0 q1 q3 h h1
      go_enter Try.func32, Try.ntmps32
      go_wp2_with fail
      refine bodyPost_ret (ret_tok rfl rfl (heap_alloc_new w _)) rfl ?_
      exact ⟨rfl, (Ext.refl w).alloc _⟩
  · have hne := q0 h0
    clear q0 q1 q3 h h0
    go_enter Try.func32, Try.ntmps32
    go_wp2_with fail
    refine bodyPost_ret (ret_tok rfl rfl (heap_alloc_new w _)) rfl ?_
    exact ⟨rfl, (Ext.refl w).alloc _⟩

theorem row3n (w : World) (x y z : Value) (t : TypeId) (q : Nat) (a b c : Value) : (((((w.alloc (.cells #[x, y, z] t)).drewN q).setCell ⟨w.heap.size, 0, none⟩ a).setCell ⟨w.heap.size, 1, none⟩ b).setCell ⟨w.heap.size, 2, none⟩ c).heap[w.heap.size]? = some (.cells #[a, b, c] t (0, 0)) :=
  row3 (w := (w.alloc (.cells #[x, y, z] t)).drewN q) (heap_alloc_new w _) a b c
theorem ext3n (w : World) (o : Obj) (q : Nat) (a b c : Value) : Ext w (((((w.alloc o).drewN q).setCell ⟨w.heap.size, 0, none⟩ a).setCell ⟨w.heap.size, 1, none⟩ b).setCell ⟨w.heap.size, 2, none⟩ c) :=
  (((((Ext.refl w).alloc o).drewN q).setCell (p := ⟨w.heap.size, 0, none⟩) (Nat.le_refl _) a).setCell (p := ⟨w.heap.size, 1, none⟩) (Nat.le_refl _) b).setCell (p := ⟨w.heap.size, 2, none⟩) (Nat.le_refl _) c
set_option maxHeartbeats 2000000 in
theorem decode_bad2 (w : World) (b off n c p k : Nat) (ys : List Nat) (hl : ys.length = n) (hb : ∀ x ∈ ys, x < 256) (hr : Rd w (some ⟨b, off, none⟩) (vals .u8 ys)) (hnc : n ≤ c) (hn : n = k + 16) (hk : k < 256) (hp : p < 32)
    (c0 : w.cell? ⟨b, off, none⟩ = some (.int .u8 83)) (c1 : w.cell? ⟨b, off + 1, none⟩ = some (.int .u8 71)) (c2 : w.cell? ⟨b, off + 2, none⟩ = some (.int .u8 (p : Int))) (c3 : w.cell? ⟨b, off + 3, none⟩ = some (.int .u8 (k : Int)))
    (h : numB ((ys.drop (4 + k)).take 8) < 1 ∨ 4611686018427387903 < numB ((ys.drop (4 + k)).take 8) ∨ numB (ys.drop (4 + k + 8)) ≠ upd 14695981039346656037 (ys.take (4 + k + 8)) % 4294967296) :
    Calls Try.prog 32 #[.slice (some ⟨b, off, none⟩) n c] w (RetE (.tuple #[tokZ, .int .i64 3]) w) := by
  have d0 := cell_past c0; have d1 := cell_past c1; have d2 := cell_past c2; have d3 := cell_past c3
  clear c0 c1 c2 c3
  have hne : ((n : Int) != 4 + (k : Int) + 12) = false := by simp; omega
  have n1 : k + 16 ≤ n := by omega
  have n2 : n ≤ k + 16 := by omega
  have n3 : ¬ c = 4 + k := by omega
  have n4 : ¬ c = 4 + k + 8 := by omega
  have r1 := rd_cut (zs := (ys.drop (4 + k)).take 8) hr (4 + k) 8 rfl
  have r2 := rd_cut (zs := ys.drop (4 + k + 8)) hr (4 + k + 8) 4 (by rw [List.take_of_length_le (by rw [List.length_drop]; omega)])
  have r3 : Rd w (some ⟨b, off, none⟩) (vals .u8 (ys.take (4 + k + 8))) := rd_cut hr 0 (4 + k + 8) (by rw [List.drop_zero])
  have l1 : ((ys.drop (4 + k)).take 8).length = 8 := by rw [List.length_take, List.length_drop]; omega
  have l2 : (ys.drop (4 + k + 8)).length = n - (4 + k + 8) := by rw [List.length_drop]; omega
  have l3 : (ys.take (4 + k + 8)).length = 4 + k + 8 := by rw [List.length_take]; omega
  have b1 : ∀ x ∈ (ys.drop (4 + k)).take 8, x < 256 := fun x hx => hb x (List.mem_of_mem_drop (List.mem_of_mem_take hx))
  have b2 : ∀ x ∈ ys.drop (4 + k + 8), x < 256 := fun x hx => hb x (List.mem_of_mem_drop hx)
  have b3 : ∀ x ∈ ys.take (4 + k + 8), x < 256 := fun x hx => hb x (List.mem_of_mem_take hx)
  have C1 := Lib.hid (fun (o : Obj) => tokNumber_any (w.alloc o) (some ⟨b, off + (4 + k), none⟩) 8 (c - (4 + k)) _ l1 (by omega) b1 (r1.alloc o))
  have C2 := Lib.hid (fun (o : Obj) q => tokNumber_any ((w.alloc o).drewN q) (some ⟨b, off + (4 + k + 8), none⟩) (n - (4 + k + 8)) (c - (4 + k + 8)) _ l2 (by omega) b2 ((r2.alloc o).drewN q))
  have C3 := Lib.hid (fun (o : Obj) q => sum_any (some ⟨b, off, none⟩) (4 + k + 8) c _ ((w.alloc o).drewN q) l3 b3 (by omega) ((r3.alloc o).drewN q))
  have hS := numB_lt_of _ b1 (by omega)
  have hQ := numB_lt_of _ b2 (by omega)
  have hU := upd_lt 14695981039346656037 (ys.take (4 + k + 8)) (by omega)
  generalize numB ((ys.drop (4 + k)).take 8) = s at *
  generalize numB (ys.drop (4 + k + 8)) = q at *
  generalize upd 14695981039346656037 (ys.take (4 + k + 8)) = U at *
  have hand := and_sum U hU
  clear hl hb hr r1 r2 r3 l1 l2 l3 b1 b2 b3 hn
  by_cases hs : s < 1 ∨ 4611686018427387903 < s
  · have hcase : (decide ((s : Int) < 1) = true) ∨ (decide ((s : Int) < 1) = false ∧ decide (4611686018427387903 < (s : Int)) = true) := by
      by_cases h1 : s < 1
      · left; simp; omega
      · right; simp; omega
    clear h hs hand C2 C3
    rcases hcase with q1 | ⟨q1, q2⟩
    all_goals
      go_enter Try.func32, Try.ntmps32
      go_wp2_with fail
      refine (C1.out _).mono ?_
      rintro e w1 ⟨rfl, rfl⟩
      go_upto_region 7 with fail
      go_quiet (fail)
      go_wp2_with fail
      refine bodyPost_ret (ret_tok rfl rfl (row3n w _ _ _ _ _ _ _ _)) rfl ?_
      exact ⟨rfl, ext3n w _ _ _ _ _⟩
  · have q1 : decide ((s : Int) < 1) = false := by simp; omega
    have q2 : decide (4611686018427387903 < (s : Int)) = false := by simp; omega
    have hqq : ((q : Int) != ((U % 4294967296 : Nat) : Int)) = true := by
      have : q ≠ U % 4294967296 := by omega
      simp; omega
    clear h hs
    go_enter Try.func32, Try.ntmps32
    go_wp2_with fail
    refine (C1.out _).mono ?_
    rintro e w1 ⟨rfl, rfl⟩
    go_upto_region 7 with fail
    go_quiet ((first
      | (go_at_call 69; exact quiet_eq (C2.out _ _))
      | (go_at_call 69; exact quiet_add_eq (C2.out _ _))
      | (go_at_call 67; exact quiet_eq (C3.out _ _))
      | (go_at_call 67; exact quiet_add_eq (C3.out _ _))))
    go_wp2_with fail
    refine bodyPost_ret (ret_tok rfl rfl (row3n w _ _ _ _ _ _ _ _)) rfl ?_
    exact ⟨rfl, ext3n w _ _ _ _ _⟩
/-- Decode of bytes that are no token's -/
theorem decode_none (w : World) (A : Option Addr) (n c : Nat) (ys : List Nat) (hl : ys.length = n) (hb : ∀ x ∈ ys, x < 256) (hr : Rd w A (vals .u8 ys)) (hnc : n ≤ c) (hn : n ≤ 4096) (h : ¬ IsTok ys) :
    Calls Try.prog 32 #[.slice A n c] w (RetE (.tuple #[tokZ, .int .i64 3]) w) := by
  by_cases hf : n < 16
  · exact decode_few w A n c hf
  · obtain ⟨b, off, y0, y1, y2, y3, rfl, c0, c1, c2, c3, e0, e1, e2, e3⟩ := heads hr (by omega)
    have b0 := hb y0 (List.mem_of_getElem? e0); have b1 := hb y1 (List.mem_of_getElem? e1); have b2 := hb y2 (List.mem_of_getElem? e2); have b3 := hb y3 (List.mem_of_getElem? e3)
    by_cases hc : y0 ≠ 83 ∨ y1 ≠ 71 ∨ 32 ≤ y2 ∨ n ≠ 4 + y3 + 12
    · exact decode_bad1 w b off n c y0 y1 y2 y3 (by omega) hn b0 b1 b2 b3 c0 c1 c2 c3 hc
    · obtain rfl : y0 = 83 := by omega
      obtain rfl : y1 = 71 := by omega
      refine decode_bad2 w b off n c y2 y3 ys hl hb hr hnc (by omega) b3 (by omega) c0 c1 c2 c3 ?_
      refine Classical.byContradiction fun hh => h ?_
      exact isTok_of ys y2 y3 _ hb (by omega) e0 e1 e2 e3 (by omega) b3 rfl (by omega) (by omega) (Classical.byContradiction fun hq => hh (.inr (.inr hq)))
end Go.Proofs.Ythkdjjfnmlemdaa
