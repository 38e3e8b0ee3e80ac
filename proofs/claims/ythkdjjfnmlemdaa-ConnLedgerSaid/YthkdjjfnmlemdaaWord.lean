/- Numbers as bytes and back: token.word, token.number, the document's Word and Number. -/
import Derived.Test.YthkdjjfnmlemdaaBytes
import Derived.Test.YthkdjjfnmlemdaaFrPlain
import Derived.Deep.OwnRows
import Derived.Deep.LoopGhost
namespace Go.Proofs.Ythkdjjfnmlemdaa
open Go.RowKit

/-- k bytes of a number, the highest first -/
def wordB (v : Nat) : Nat → List Nat
  | 0 => []
  | k + 1 => v / 256 ^ k % 256 :: wordB v k
theorem wordB_len (v k : Nat) : (wordB v k).length = k := by induction k with
  | zero => rfl
  | succ k ih => rw [wordB, List.length_cons, ih]
theorem wordB_lt (v k : Nat) : ∀ x ∈ wordB v k, x < 256 := by
  induction k with
  | zero => simp [wordB]
  | succ k ih =>
    intro x hx
    rw [wordB] at hx
    rcases List.mem_cons.1 hx with rfl | hx
    · exact Nat.mod_lt _ (by omega)
    · exact ih x hx
theorem numB_from (xs : List Nat) : ∀ a, xs.foldl (fun n x => n * 256 + x) a = a * 256 ^ xs.length + numB xs := by
  induction xs with
  | nil => intro a; simp [numB]
  | cons x xs ih =>
    intro a
    have e : numB (x :: xs) = (0 * 256 + x) * 256 ^ xs.length + numB xs := by
      show List.foldl _ (0 * 256 + x) xs = _
      exact ih _
    rw [List.foldl_cons, ih, e, List.length_cons, Nat.pow_succ, Nat.zero_mul, Nat.zero_add, Nat.add_mul, Nat.mul_assoc, Nat.mul_comm 256, Nat.add_assoc]
theorem numB_cons (x : Nat) (xs : List Nat) : numB (x :: xs) = x * 256 ^ xs.length + numB xs := by
  have e := numB_from xs (0 * 256 + x)
  have e' : numB (x :: xs) = (0 * 256 + x) * 256 ^ xs.length + numB xs := e
  rw [e', Nat.zero_mul, Nat.zero_add]
theorem numB_wordB (v k : Nat) : numB (wordB v k) = v % 256 ^ k := by
  induction k with
  | zero => simp [wordB, numB, Nat.mod_one]
  | succ k ih =>
    rw [wordB, numB_cons, wordB_len, ih, Nat.pow_succ, Nat.mul_comm (256 ^ k) 256, Nat.mul_comm 256 (256 ^ k), Nat.mod_mul, Nat.mul_comm, Nat.add_comm]
theorem wordB_numB (xs : List Nat) (h : ∀ x ∈ xs, x < 256) (m : Nat) : wordB (m * 256 ^ xs.length + numB xs) xs.length = xs := by
  induction xs generalizing m with
  | nil => rfl
  | cons x xs ih =>
    have hx := h x List.mem_cons_self
    have hl := numB_lt xs (fun y hy => h y (List.mem_cons_of_mem _ hy))
    have e : m * 256 ^ (xs.length + 1) + numB (x :: xs) = (m * 256 + x) * 256 ^ xs.length + numB xs := by
      rw [numB_cons, Nat.pow_succ, Nat.add_mul, Nat.mul_comm (256 ^ xs.length) 256, Nat.mul_assoc, Nat.add_assoc]
    rw [List.length_cons, wordB, e, ih (fun y hy => h y (List.mem_cons_of_mem _ hy)), Nat.mul_comm _ (256 ^ xs.length), Nat.mul_add_div (Nat.pos_of_ne_zero (by simp)), Nat.div_eq_of_lt hl]
    congr 1
    omega

theorem made_row (w : World) (n : Nat) (hn : n ≤ maxLen) : (w.alloc (.cells (madeCells #[.int .u8 0] n) 5)).ownsRow w.heap.size 5 1 (.slice (some ⟨w.heap.size, 0, none⟩) n n) n (vals .u8 (List.replicate n 0)) := by
  have e : (.cells (madeCells #[.int .u8 0] n) 5 : Obj) = .cells (vals .u8 (List.replicate n 0)).toArray 5 := by
    congr 1
    apply Array.ext'
    rw [toList_madeCells_one]
    simp [vals]
  rw [e]
  exact own_made w _ 5 1 n (by simp [vals]) hn (Nat.le_refl _)
theorem set_word (v n j : Nat) (h : j < n) : (List.replicate (n - j) 0 ++ wordB v j).set (n - 1 - j) (v / 256 ^ j % 256) = List.replicate (n - (j + 1)) 0 ++ wordB v (j + 1) := by
  have e : n - j = (n - (j + 1)) + 1 := by omega
  rw [List.set_append_left _ _ (by simp; omega), e, List.replicate_succ', List.set_append_right _ _ (by simp; omega)]
  rw [show n - 1 - j - (List.replicate (n - (j + 1)) 0).length = 0 by simp; omega]
  simp [wordB]

set_option maxHeartbeats 1000000 in
theorem docWord_any (w : World) (v n : Nat) (hv : v < 18446744073709551616) (hn : n ≤ 1000) :
    Calls Try.prog 60 #[.int .u64 (v : Int), .int .i64 (n : Int)] w (RetB (wordB v n) w) := by
  have hmk := Lib.hid (run_make_row' (P := Try.prog) 28 5 (.int .u8 0) 1 Try.underlying28 info_u8 rfl .i64 .i64 n (by omega) (by omega))
  have hrow := Lib.hid (made_row w n (by unfold maxLen; omega))
  have hmk' := hmk.out
  go_enter Try.func60, Try.ntmps60
  go_wp2_with fail
  clear hmk'
  go_loopg [0, 6] n (fun g v0 v6 wr => ∃ j : Nat, j ≤ n ∧ g = n - j ∧ v0 = .int .u64 ((v / 256 ^ j : Nat) : Int) ∧ v6 = .int .i64 ((n : Int) - 1 - (j : Int)) ∧ Ext w wr ∧
    wr.ownsRow w.heap.size 5 1 (.slice (some ⟨w.heap.size, 0, none⟩) n n) n (vals .u8 (List.replicate (n - j) 0 ++ wordB v j)))
  case atStart =>
    exact ⟨0, Nat.zero_le _, rfl, by simp, by go_num, (Ext.refl w).alloc _, by simpa [wordB] using hrow.out⟩
  case round =>
    obtain ⟨j, hj, rfl, rfl, rfl, hx, ho⟩ := hrel
    have Hx := Lib.hid hx; clear hx
    by_cases hlt : j < n
    · have hq : v / 256 ^ j < 18446744073709551616 := Nat.lt_of_le_of_lt (Nat.div_le_self _ _) hv
      have hfz := ho.frozenAt (n - 1 - j)
      have hst := Lib.hid (ho.stored (n - 1 - j) (.int .u8 ((v / 256 ^ j % 256 : Nat) : Int)))
      have hc0 := ho.cellAt (n - 1 - j) (by omega)
      have hs := Lib.hid (set_word v n j hlt)
      have hy : (List.replicate (n - j) 0 ++ wordB v j)[n - 1 - j]? = some 0 := by
        rw [List.getElem?_append_left (by simp; omega), List.getElem?_replicate, if_pos (by omega)]
      rw [vals_get hy] at hc0
      have hq2 : v / 256 ^ (j + 1) = v / 256 ^ j / 256 := by rw [Nat.pow_succ, Nat.div_div_eq_div_mul]
      have Hq2 := Lib.hid hq2
      clear hy hq2 ho
      generalize v / 256 ^ j = q at *
      go_wp2_with fail
      go_roundg (n - (j + 1))
      case measure => omega
      case rel =>
        refine ⟨j + 1, hlt, rfl, ?_, by go_num, Hx.out.setCell (p := ⟨w.heap.size, n - 1 - j, none⟩) (Nat.le_refl _) _, ?_⟩
        · rw [Hq2.out]; rfl
        · have := hst.out.1
          rw [← vals_set, hs.out] at this
          exact this
    · obtain rfl : j = n := by omega
      have Ho := Lib.hid ho; clear ho
      go_wp2_with fail
      go_ret
      have ho := Ho.out
      rw [Nat.sub_self, List.replicate_zero, List.nil_append] at ho
      exact retB_of (wordB_len v j) ho Hx.out

set_option maxHeartbeats 1000000 in
theorem docNumber_any (w : World) (A : Option Addr) (n c : Nat) (xs : List Nat) (hl : xs.length = n) (hn : n ≤ 8) (hb : ∀ x ∈ xs, x < 256) (hr : Rd w A (vals .u8 xs)) :
    Calls Try.prog 70 #[.slice A n c] w fun e w' => e = .returned (.int .u64 (numB xs : Int)) ∧ w = w' := by
  have Hl := Lib.hid hl; have Hb := Lib.hid hb; have Hr := Lib.hid hr; clear hl hb hr
  go_enter Try.func70, Try.ntmps70
  go_wp2_with fail
  go_loop [3, 7] (fun x i => ∃ k : Nat, k ≤ n ∧ i = .int .i64 k ∧ x = .int .u64 ((numB (xs.take k) : Nat) : Int)) (fun _ i => n - (intOf i).toNat)
  case atStart => exact ⟨0, Nat.zero_le _, rfl, by rw [List.take_zero, numB_nil]; rfl⟩
  case round =>
    obtain ⟨k, hk, rfl, rfl⟩ := hrel
    by_cases hlt : k < n
    · obtain ⟨x, hx⟩ := get_of_lt (xs := xs) (j := k) (by rw [Hl.out]; exact hlt)
      have hx256 : x < 256 := Hb.out x (List.mem_of_getElem? hx)
      obtain ⟨b, off, hA, hc⟩ := Hr.out.at_ hx
      subst hA
      have hnl := numB_lt (xs.take k) (fun y hy => Hb.out y (List.mem_of_mem_take hy))
      have hle : numB (xs.take k) < 72057594037927936 := by
        refine Nat.lt_of_lt_of_le hnl ?_
        rw [show (72057594037927936 : Nat) = 256 ^ 7 by rfl]
        exact Nat.pow_le_pow_right (by omega) (by rw [List.length_take, Hl.out]; omega)
      have Hx := Lib.hid hx; clear hx hnl
      go_wp2
      go_round
      case rel => exact ⟨k + 1, by omega, by go_num, by rw [take_succ_of Hx.out, numB_snoc]; go_num⟩
      case measure => simp [intOf]; omega
    · obtain rfl : k = n := by omega
      have e : xs.take k = xs := List.take_of_length_le (by rw [Hl.out]; omega)
      rw [e]
      clear e
      go_wp2
      go_ret
      exact ⟨rfl, rfl⟩

theorem or_byte64 (a x : Nat) (ha : a < 72057594037927936) (hx : x < 256) : bits .or .u64 ((a : Int) * 256) (x : Int) = ((a * 256 + x : Nat) : Int) := by
  have e : ((a : Int) * 256) = ((a * 256 : Nat) : Int) := by omega
  rw [e, Go.u64_or_nat _ _ (by omega) (by omega)]
  congr 1
  have h := Nat.two_pow_add_eq_or_of_lt (i := 8) (b := x) (by omega) a
  simp only [Nat.reducePow] at h
  rw [Nat.mul_comm a 256]
  exact h.symm
set_option maxHeartbeats 1000000 in
theorem tokNumber_any (w : World) (A : Option Addr) (n c : Nat) (xs : List Nat) (hl : xs.length = n) (hn : n ≤ 8) (hb : ∀ x ∈ xs, x < 256) (hr : Rd w A (vals .u8 xs)) :
    Calls Try.prog 69 #[.slice A n c] w fun e w' => e = .returned (.int .u64 (numB xs : Int)) ∧ w = w' := by
  have Hl := Lib.hid hl; have Hb := Lib.hid hb; have Hr := Lib.hid hr; clear hl hb hr
  go_enter Try.func69, Try.ntmps69
  go_wp2_with fail
  go_loop [3, 8] (fun x i => ∃ k : Nat, k ≤ n ∧ i = .int .i64 k ∧ x = .int .u64 ((numB (xs.take k) : Nat) : Int)) (fun _ i => n - (intOf i).toNat)
  case atStart => exact ⟨0, Nat.zero_le _, rfl, by rw [List.take_zero, numB_nil]; rfl⟩
  case round =>
    obtain ⟨k, hk, rfl, rfl⟩ := hrel
    by_cases hlt : k < n
    · obtain ⟨x, hx⟩ := get_of_lt (xs := xs) (j := k) (by rw [Hl.out]; exact hlt)
      have hx256 : x < 256 := Hb.out x (List.mem_of_getElem? hx)
      obtain ⟨b, off, hA, hc⟩ := Hr.out.at_ hx
      subst hA
      have hnl := numB_lt (xs.take k) (fun y hy => Hb.out y (List.mem_of_mem_take hy))
      have hle : numB (xs.take k) < 72057594037927936 := by
        refine Nat.lt_of_lt_of_le hnl ?_
        rw [show (72057594037927936 : Nat) = 256 ^ 7 by rfl]
        exact Nat.pow_le_pow_right (by omega) (by rw [List.length_take, Hl.out]; omega)
      have Hx := Lib.hid hx; clear hx hnl
      go_wp2
      go_round
      case rel => exact ⟨k + 1, by omega, by go_num, by rw [take_succ_of Hx.out, numB_snoc, or_byte64 _ _ hle hx256]⟩
      case measure => simp [intOf]; omega
    · obtain rfl : k = n := by omega
      have e : xs.take k = xs := List.take_of_length_le (by rw [Hl.out]; omega)
      rw [e]
      clear e
      go_wp2
      go_ret
      exact ⟨rfl, rfl⟩
end Go.Proofs.Ythkdjjfnmlemdaa
