/- token.Encode. -/
import Derived.Test.YthkdjjfnmlemdaaTok
import Derived.Deep.DeepCutAuto
import Derived.Test.YthkdjjfnmlemdaaStep
namespace Go.Proofs.Ythkdjjfnmlemdaa
open Go.RowKit

/-- a token's bytes ahead of the sum; all of them -/
def bodyT (p : Nat) (xs : List Nat) (s : Nat) : List Nat := 83 :: 71 :: p :: xs.length :: (xs ++ wordB s 8)
def sumT (b : List Nat) : Nat := upd 14695981039346656037 b % 4294967296
def tokB (p : Nat) (xs : List Nat) (s : Nat) : List Nat := bodyT p xs s ++ wordB (sumT (bodyT p xs s)) 4
theorem bodyT_len (p : Nat) (xs : List Nat) (s : Nat) : (bodyT p xs s).length = xs.length + 12 := by
  simp only [bodyT, List.length_cons, List.length_append, wordB_len]
theorem tokB_len (p : Nat) (xs : List Nat) (s : Nat) : (tokB p xs s).length = xs.length + 16 := by
  rw [tokB, List.length_append, bodyT_len, wordB_len]
/-- a token's value -/
abbrev tokV (p : Int) (A : Option Addr) (n c : Nat) (s : Int) : Value := .agg #[.int .i64 p, .slice A n c, .int .i64 s]

theorem tokEncode_arg (w : World) (p s : Int) (A : Option Addr) (n c : Nat) (h : s < 1 ∨ 4611686018427387903 < s ∨ p < 0 ∨ 32 ≤ p) :
    Calls Try.prog 30 #[tokV p A n c s] w (RetE (.tuple #[.slice none 0 0, .int .i64 1]) w) := by
  by_cases hs : s < 1 ∨ 4611686018427387903 < s
  · rcases hs with hs | hs
    · go_enter Try.func30, Try.ntmps30
      go_wp2_with fail
      go_ret2
      exact ⟨rfl, (Ext.refl w).alloc _⟩
    · have hs' : ¬ s < 1 := by omega
      go_enter Try.func30, Try.ntmps30
      go_wp2_with fail
      go_ret2
      exact ⟨rfl, (Ext.refl w).alloc _⟩
  · have h1 : ¬ s < 1 := by omega
    have h2 : ¬ 4611686018427387903 < s := by omega
    have hp : p < 0 ∨ 32 ≤ p := by omega
    clear hs h
    go_enter Try.func30, Try.ntmps30
    go_wp2_with fail
    refine (ident_arg p A n c _ hp).mono ?_
    rintro e w1 ⟨rfl, rfl⟩
    go_wp2_with fail
    go_ret2
    exact ⟨rfl, (Ext.refl w).alloc _⟩
theorem tokEncode_long (w : World) (p s : Int) (A : Option Addr) (n c : Nat) (h1 : 1 ≤ s) (h2 : s ≤ 4611686018427387903) (h3 : 0 ≤ p) (h4 : p < 32) (hn : 255 < n) :
    Calls Try.prog 30 #[tokV p A n c s] w (RetE (.tuple #[.slice none 0 0, .int .i64 2]) w) := by
  have h1' : ¬ s < 1 := by omega
  have h2' : ¬ 4611686018427387903 < s := by omega
  go_enter Try.func30, Try.ntmps30
  go_wp2_with fail
  refine (ident_long p A n c _ h3 h4 hn).mono ?_
  rintro e w1 ⟨rfl, rfl⟩
  go_wp2_with fail
  go_ret2
  exact ⟨rfl, (Ext.refl w).alloc _⟩
theorem and_sum (u : Nat) (hu : u < 18446744073709551616) : bits .and .u64 (u : Int) 4294967295 = ((u % 4294967296 : Nat) : Int) := by
  rw [show (4294967295 : Int) = ((4294967295 : Nat) : Int) from rfl, Go.u64_and_nat u 4294967295 hu (by omega)]
  have h := Nat.and_two_pow_sub_one_eq_mod u 32
  simp only [Nat.reducePow, Nat.reduceSub] at h
  rw [h]
theorem own_head4 (w : World) (p n : Nat) : (w.alloc (.cells #[.int .u8 83, .int .u8 71, .int .u8 (p : Int), .int .u8 (n : Int)] 5)).ownsRow w.heap.size 5 1 (.slice (some ⟨w.heap.size, 0, none⟩) 4 4) 4 (vals .u8 [83, 71, p, n]) :=
  own_made w _ 5 1 4 rfl (by unfold maxLen; omega) (Nat.le_refl _)

set_option maxHeartbeats 2000000 in
theorem tokEncode_ok (w : World) (p s : Nat) (A : Option Addr) (n c : Nat) (xs : List Nat) (hl : xs.length = n) (hb : ∀ x ∈ xs, x < 256) (hr : Rd w A (vals .u8 xs)) (h1 : 1 ≤ s) (h2 : s ≤ 4611686018427387903) (h4 : p < 32) (hn : n ≤ 255) :
    Calls Try.prog 30 #[tokV (p : Int) A n c (s : Int)] w (RetBE (tokB p xs s) 0 w) := by
  have Hl := Lib.hid hl; have Hr := Lib.hid hr; have Hb := Lib.hid hb; clear hl hr hb
  go_enter Try.func30, Try.ntmps30
  go_wp2_with fail
  refine (ident_ok p A n c xs _ h4 Hl.out hn (Hr.out.alloc _)).mono ?_
  rintro e w1 ⟨A1, c1, rfl, hown1, hx1⟩
  have hl1 : (p :: xs).length = n + 1 := by rw [List.length_cons, Hl.out]
  rw [hl1] at hown1 ⊢
  clear hl1
  obtain ⟨g, rfl, hg, hg'⟩ := own_block hown1 (by omega)
  have hc0 := hown1.cellAt 0 (by omega)
  have hc0' : w1.cell? ⟨g, 0, none⟩ = some (.int .u8 (p : Int)) := by rw [hc0]; rfl
  have hcap := own_cap hown1
  obtain ⟨d, hd⟩ : ∃ d, c1 = d + 1 := ⟨c1 - 1, by omega⟩
  obtain ⟨A2, hsl, hrd, _⟩ := slice_from_any Try.underlying28 size_u8 (A := some ⟨g, 0, none⟩) (n := n + 1) (c := c1) (m := n) (d := d) 1 (ki := 1) rfl hcap rfl hd
  have hr2 := Lib.hid (hrd w1 (vals .u8 (p :: xs)) (by rw [vals_len, List.length_cons, Hl.out]) (Rd.of_own hown1))
  have hb0 : w1.cell? ⟨w.heap.size, 1, none⟩ = some (.slice A n c) := by
    rw [hx1.cell (p := ⟨w.heap.size, 1, none⟩) (by simp)]
    exact World.cell?_alloc_new _ _ _ _
  have hb2 : w1.cell? ⟨w.heap.size, 2, none⟩ = some (.int .i64 (s : Int)) := by
    rw [hx1.cell (p := ⟨w.heap.size, 2, none⟩) (by simp)]
    exact World.cell?_alloc_new _ _ _ _
  clear hc0 hown1 hrd
  have Hd := Lib.hid hd; clear hd
  go_upto_region 6 with fail
  go_cut [6] (fun v wd => ∃ A6 c6, v = .slice A6 (4 + n) c6 ∧ wd.ownsRow w1.heap.size 5 1 (.slice A6 (4 + n) c6) (4 + n) (vals .u8 ([83, 71, p, n] ++ xs)) ∧ Ext w1 wd)
  case first =>
    have hwn : IntKind.u8.wrap (n : Int) = (n : Int) := by rw [IntKind.wrap_u8]; omega
    have hoo : (w1.alloc (.cells #[.int .u8 83, .int .u8 71, .int .u8 (p : Int), .int .u8 (n : Int)] 5)).drew.ownsRow w1.heap.size 5 1 (.slice (some ⟨w1.heap.size, 0, none⟩) 4 4) 4 (vals .u8 [83, 71, p, n]) := own_head4 w1 p n
    have hrr : Rd (w1.alloc (.cells #[.int .u8 83, .int .u8 71, .int .u8 (p : Int), .int .u8 (n : Int)] 5)).drew A2 (vals .u8 xs) := (hr2.out.alloc _).drew
    have Hoo := Lib.hid hoo; have Hrr := Lib.hid hrr; clear hoo hrr
    go_region_law ((refine step_app_u8 (w1.alloc (.cells #[.int .u8 83, .int .u8 71, .int .u8 (p : Int), .int .u8 (n : Int)] 5)).drew rfl (.tmp 33) (.tmp 35) rfl w1.heap.size (B := some ⟨w1.heap.size, 0, none⟩) (n := 4) (cb := 4) (xs := [83, 71, p, n]) (by simp [Act.eval]) Hoo.out (A := A2) (m := n) (c := d) (news := xs) (by simp [Act.eval]) Hl.out Hrr.out (by omega) (by simp) ?_; intro A6 c6 w6 hown6 hgrow6 _))
    all_goals
      go_wp2_with fail
      go_meet
      exact ⟨_, _, rfl, by assumption, (((Ext.refl w1).alloc _).drew).grown (by assumption) (by simp [Value.ownBlock])⟩
  case rest =>
    obtain ⟨A6, c6, rfl, hown6, hy6⟩ := hcut
    have hk2 : wc.cell? ⟨w.heap.size, 2, none⟩ = some (.int .i64 (s : Int)) := by
      rw [hy6.cell (p := ⟨w.heap.size, 2, none⟩) (World.block_lt_of_cell? w1 _ hb2)]; exact hb2
    have Hown6 := Lib.hid hown6; clear hown6 hb0 hb2 hc0'
    have hl6 : ([83, 71, p, n] ++ xs).length = 4 + n := by rw [List.length_append, Hl.out]; rfl
    have Hl6 := Lib.hid hl6; clear hl6
    have hs6 : w1.heap.size ≤ wc.heap.size := hy6.size
    go_wp2_with fail
    refine (tokWord_any wc w1 w1.heap.size A6 (4 + n) c6 _ s 8 Hl6.out Hown6.out hy6 (Nat.le_refl _) hs6 (by omega) (by omega) (by omega)).mono ?_
    rintro e w7 ⟨A7, c7, rfl, hown7, hy7, hs7⟩
    have hbody : [83, 71, p, n] ++ xs ++ wordB s 8 = bodyT p xs s := by rw [bodyT, Hl.out]; rfl
    rw [hbody] at hown7
    have hbl : (bodyT p xs s).length = 4 + n + 8 := by rw [bodyT_len, Hl.out]; omega
    have hbb : ∀ x ∈ bodyT p xs s, x < 256 := fun x hx => by
      simp only [bodyT, List.mem_cons, List.mem_append] at hx
      rcases hx with rfl | rfl | rfl | rfl | hx | hx
      · omega
      · omega
      · omega
      · have := Hl.out; omega
      · exact Hb.out x hx
      · exact wordB_lt _ _ x hx
    have Hown7 := Lib.hid hown7; have Hbl := Lib.hid hbl; have Hbb := Lib.hid hbb; clear hown7 hbody hbl hbb
    have hr7 := Lib.hid (Rd.of_own Hown7.out)
    clear Hown6
    go_wp2_with fail
    refine (sum_any A7 (4 + n + 8) c7 (bodyT p xs s) w7 Hbl.out Hbb.out (by omega) hr7.out).mono ?_
    rintro e w8 ⟨rfl, rfl⟩
    go_wp2_with fail
    rw [and_sum _ (upd_lt _ _ (by omega))]
    refine (tokWord_any w7 w1 w1.heap.size A7 (4 + n + 8) c7 _ (sumT (bodyT p xs s)) 4 Hbl.out Hown7.out hy7 (Nat.le_refl _) (by omega) (Nat.lt_trans (Nat.mod_lt _ (by omega)) (by omega)) (by omega) (by omega)).mono ?_
    rintro e w9 ⟨A9, c9, rfl, hown9, hy9, hs9⟩
    have hlt : (tokB p xs s).length = 4 + n + 8 + 4 := by rw [tokB_len, Hl.out]; omega
    have Hlt := Lib.hid hlt; have Hown9 := Lib.hid hown9; clear hlt hown9
    go_wp2_with fail
    go_ret2
    have hx9 : Ext w w9 := (((Ext.refl w).alloc _).trans hx1).trans hy9
    exact retBE_of Hlt.out (own_base Hown9.out (by have := hx1.size; simp at this; omega)) hx9
end Go.Proofs.Ythkdjjfnmlemdaa
