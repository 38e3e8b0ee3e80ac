/- hash.Order and the document's; hash.Shard and the document's. -/
import Derived.Test.YtlfccmipfijjbaaOrdPlain
import Derived.Test.YtlfccmipfijjbaaHashA
import Derived.Test.YtlfccmipfijjbaaBytes
namespace Go.Proofs.Ytlfccmipfijjbaa
open Go.RowKit

theorem findNext31 : Extern.findNext Try.f31 = none := by kernel_rfl
theorem cmp_call (args : Array Value) (w : World) : (callFunc 31 args).run Try.prog w = ((Extern.BytealgCompare.compare args).run Try.prog w).andThen fun v w' => .ok (.value v) w' :=
  run_callFunc_extern Try.func31 (by kernel_rfl) (by kernel_rfl) (by kernel_rfl) (e := Extern.BytealgCompare.compare) (by kernel_rfl) args w

set_option maxHeartbeats 400000 in
theorem bcompare_any (A B : Option Addr) (n c m d : Nat) (xs ys : List Nat) (w : World) (hl : xs.length = n) (hl' : ys.length = m) (hb : ∀ x ∈ xs, x < 256) (hb' : ∀ x ∈ ys, x < 256) (hr : Rd w A (vals .u8 xs)) (hr' : Rd w B (vals .u8 ys)) :
    Calls Try.prog 28 #[.slice A n c, .slice B m d] w fun e w' => e = .returned (.int .i64 (ord xs ys)) ∧ w = w' := by
  have hrun := Lib.hid (run_cmpB (P := Try.prog) (c := c) (d := d) hl hr hl' hr' hb hb')
  clear hl hl' hr hr' hb hb'
  go_enter Try.func28, Try.ntmps28
  go_wp2_with fail
  rw [cmp_call, hrun.out]
  simp only [Result.andThen]
  rw [Oper.upon_value]
  go_wp2
  go_ret
  exact ⟨rfl, rfl⟩
theorem order_any (A B : Option Addr) (n c m d : Nat) (xs ys : List Nat) (w : World) (hl : xs.length = n) (hl' : ys.length = m) (hb : ∀ x ∈ xs, x < 256) (hb' : ∀ x ∈ ys, x < 256) (hr : Rd w A (vals .u8 xs)) (hr' : Rd w B (vals .u8 ys)) :
    Calls Try.prog 17 #[.slice A n c, .slice B m d] w fun e w' => e = .returned (.int .i64 (ord xs ys)) ∧ w = w' := by
  have c1 := Lib.hid (bcompare_any A B n c m d xs ys w hl hl' hb hb' hr hr')
  clear hl hl' hr hr' hb hb'
  go_enter Try.func17, Try.ntmps17
  go_wp2_with fail
  refine c1.out.mono ?_
  rintro e w' ⟨rfl, rfl⟩
  go_wp2
  go_ret
  exact ⟨rfl, rfl⟩

set_option maxHeartbeats 1000000 in
theorem refOrder_any (A B : Option Addr) (n c m d : Nat) (xs ys : List Nat) (w : World) (hl : xs.length = n) (hl' : ys.length = m) (hn : n ≤ 9223372036854775807) (_hm : m ≤ 9223372036854775807) (hb : ∀ x ∈ xs, x < 256) (hb' : ∀ x ∈ ys, x < 256) (hr : Rd w A (vals .u8 xs)) (hr' : Rd w B (vals .u8 ys)) :
    Calls Try.prog 18 #[.slice A n c, .slice B m d] w (RetQ (.int .i64 (ord xs ys)) w) := by
  have Hl := Lib.hid hl; have Hr := Lib.hid hr; have Hl' := Lib.hid hl'; have Hr' := Lib.hid hr'; have Hb := Lib.hid hb; have Hb' := Lib.hid hb'; clear hl hr hl' hr' hb hb'
  go_enter Try.func18, Try.ntmps18
  go_wp2
  go_loopw [5] (fun i wr => ∃ k q : Nat, k ≤ n ∧ k ≤ m ∧ i = .int .i64 k ∧ wr = w.drewN q ∧ xs.take k = ys.take k) (fun i _ => n - (intOf i).toNat)
  case atStart => exact ⟨0, 0, Nat.zero_le _, Nat.zero_le _, rfl, rfl, rfl⟩
  case round =>
    obtain ⟨k, q, hk, hk', rfl, rfl, htk⟩ := hrel
    have Htk := Lib.hid htk; clear htk
    by_cases hlt : k < n
    · by_cases hlt' : k < m
      · obtain ⟨x, hx⟩ := get_of_lt (xs := xs) (j := k) (by rw [Hl.out]; exact hlt)
        obtain ⟨y, hy⟩ := get_of_lt (xs := ys) (j := k) (by rw [Hl'.out]; exact hlt')
        have hx256 : x < 256 := Hb.out x (List.mem_of_getElem? hx)
        have hy256 : y < 256 := Hb'.out y (List.mem_of_getElem? hy)
        obtain ⟨b, off, hA, _, hc⟩ := Hr.out.at_ hx
        obtain ⟨b', off', hA', _, hc'⟩ := Hr'.out.at_ hy
        have Hv := Lib.hid (ord_at Htk.out hx hy)
        have Hx := Lib.hid hx; have Hy := Lib.hid hy; clear hx hy
        subst hA hA'
        by_cases hxy : x < y
        · go_wp2
          go_quiet (fail)
          go_wp2
          go_ret
          exact ⟨ret_int (by rw [Hv.out, if_pos hxy]), _, drewN_add w q _⟩
        · by_cases hyx : y < x
          · go_wp2
            go_quiet (fail)
            go_wp2
            go_quiet (fail)
            go_wp2
            go_ret
            exact ⟨ret_int (by rw [Hv.out, if_neg hxy, if_pos hyx]), _, by simp only [drewN_add]; rfl⟩
          · go_wp2
            go_quiet (fail)
            go_wp2
            go_quiet (fail)
            go_wp2
            go_roundw
            case rel => exact ⟨k + 1, _, by omega, by omega, by go_num, by first | rfl | (simp only [drewN_add]; rfl), by rw [take_succ_of Hx.out, take_succ_of Hy.out, Htk.out, show x = y by omega]⟩
            case measure => simp [intOf]; omega
      · have Hv := Lib.hid (ord_end Htk.out (by rw [Hl.out]; omega) (by rw [Hl'.out]; omega) (Or.inr (by rw [Hl'.out]; omega)))
        have hmn : m < n := by omega
        go_wp2
        go_ret
        exact ⟨ret_int (by rw [Hv.out, Hl.out, Hl'.out, if_neg (by omega), if_pos (by omega)]), q, rfl⟩
    · have Hv := Lib.hid (ord_end Htk.out (by rw [Hl.out]; omega) (by rw [Hl'.out]; omega) (Or.inl (by rw [Hl.out]; omega)))
      by_cases hmn : n < m
      · go_wp2
        go_ret
        exact ⟨ret_int (by rw [Hv.out, Hl.out, Hl'.out, if_pos (by omega)]), q, rfl⟩
      · have hmn' : ¬ m < n := by omega
        go_wp2
        go_ret
        exact ⟨ret_int (by rw [Hv.out, Hl.out, Hl'.out, if_neg (by omega), if_neg (by omega)]), q, rfl⟩

set_option maxHeartbeats 1000000 in
theorem shard_ok (A : Option Addr) (n c : Nat) (xs : List Nat) (level : Nat) (w : World) (hl : xs.length = n) (hb : ∀ x ∈ xs, x < 256) (hn : n ≤ 9223372036854775807) (hr : Rd w A (vals .u8 xs)) (hv : level ≤ 4) :
    Calls Try.prog 15 #[.slice A n c, .int .i64 (level : Int)] w (RetQ (.tuple #[.int .i64 ((shardN (upd 14695981039346656037 xs) level : Nat) : Int), .int .i64 0]) w) := by
  have c1 := Lib.hid (fun q => sum_any A n c xs (w.drewN q) hl hb hn hr)
  have hs := upd_lt 14695981039346656037 xs (by omega)
  clear hl hr hb hn
  generalize upd 14695981039346656037 xs = S at *
  have : level = 0 ∨ level = 1 ∨ level = 2 ∨ level = 3 ∨ level = 4 := by omega
  rcases this with rfl | rfl | rfl | rfl | rfl
  all_goals
    go_enter Try.func15, Try.ntmps15
    go_wp2
    go_quiet ((go_at_call 11; exact quiet_eq (c1.out _)))
    go_wp2
    go_ret2
    exact ⟨ret_t2 (int_eq (mask_val _ hs (by omega) rfl)) rfl, _, rfl⟩
theorem shard_bad (A : Option Addr) (n c : Nat) (level : Int) (w : World) (hv : level < 0 ∨ 4 < level) :
    Calls Try.prog 15 #[.slice A n c, .int .i64 level] w fun e w' => e = .returned (.tuple #[.int .i64 0, .int .i64 1]) ∧ w = w' := by
  rcases hv with h | h
  · go_enter Try.func15, Try.ntmps15
    go_wp2
    go_ret2
    exact ⟨rfl, rfl⟩
  · have h' : ¬ level < 0 := by omega
    go_enter Try.func15, Try.ntmps15
    go_wp2
    go_ret2
    exact ⟨rfl, rfl⟩

set_option maxHeartbeats 1000000 in
theorem refShard_ok (A : Option Addr) (n c : Nat) (xs : List Nat) (level : Nat) (w : World) (hl : xs.length = n) (hb : ∀ x ∈ xs, x < 256) (hn : n ≤ 9223372036854775807) (hr : Rd w A (vals .u8 xs)) (hv : level ≤ 4) :
    Calls Try.prog 27 #[.slice A n c, .int .i64 (level : Int)] w fun e w' => e = .returned (.int .i64 ((shardN (upd 14695981039346656037 xs) level : Nat) : Int)) ∧ w = w' := by
  have c1 := Lib.hid (refSum_any A n c xs w hl hb hn hr)
  have hs := upd_lt 14695981039346656037 xs (by omega)
  clear hl hr hb hn
  generalize upd 14695981039346656037 xs = S at *
  have hp : ∀ k, k < level → 2 ^ k ≤ 8 := fun k hk => by
    have : k = 0 ∨ k = 1 ∨ k = 2 ∨ k = 3 := by omega
    rcases this with rfl | rfl | rfl | rfl <;> omega
  have Hp := Lib.hid hp; clear hp
  go_enter Try.func27, Try.ntmps27
  go_wp2
  go_loop [5, 7] (fun m i => ∃ k p : Nat, k ≤ level ∧ p = 2 ^ k ∧ i = .int .i64 k ∧ m = .int .i64 p) (fun _ i => level - (intOf i).toNat)
  case atStart => exact ⟨0, 1, Nat.zero_le _, rfl, rfl, rfl⟩
  case round =>
    obtain ⟨k, p, hk, hpk, rfl, rfl⟩ := hrel
    have Hpk := Lib.hid hpk; clear hpk
    by_cases hlt : k < level
    · have hp8 : p ≤ 8 := by rw [Hpk.out]; exact Hp.out k hlt
      go_wp2
      go_round
      case rel => exact ⟨k + 1, p * 2, by omega, by rw [Hpk.out, Nat.pow_succ], by go_num, by go_num⟩
      case measure => simp [intOf]; omega
    · have hp16 : p ≤ 16 ∧ 1 ≤ p := by
        have e : k = level := by omega
        rw [Hpk.out, e]
        have : level = 0 ∨ level = 1 ∨ level = 2 ∨ level = 3 ∨ level = 4 := by omega
        rcases this with rfl | rfl | rfl | rfl | rfl <;> omega
      obtain ⟨hp16, hp1⟩ := hp16
      have hpne : ((p : Int) == 0) = false := by rw [beq_eq_false_iff_ne]; omega
      go_wp2_with fail
      refine c1.out.mono ?_
      rintro e w' ⟨rfl, rfl⟩
      go_wp2
      go_ret
      exact ⟨ret_int (mod_val _ (by omega) (by rw [Hpk.out, show k = level by omega])), rfl⟩
theorem refDocShard_ok (A : Option Addr) (n c : Nat) (xs : List Nat) (level : Nat) (w : World) (hl : xs.length = n) (hb : ∀ x ∈ xs, x < 256) (hn : n ≤ 9223372036854775807) (hr : Rd w A (vals .u8 xs)) (hv : level ≤ 4) :
    Calls Try.prog 16 #[.slice A n c, .int .i64 (level : Int)] w fun e w' => e = .returned (.tuple #[.int .i64 ((shardN (upd 14695981039346656037 xs) level : Nat) : Int), .int .i64 0]) ∧ w = w' := by
  have c1 := Lib.hid (refShard_ok A n c xs level w hl hb hn hr hv)
  clear hl hr hb hn
  go_enter Try.func16, Try.ntmps16
  go_wp2_with fail
  refine c1.out.mono ?_
  rintro e w' ⟨rfl, rfl⟩
  go_wp2
  go_ret2
  exact ⟨rfl, rfl⟩
theorem refDocShard_bad (A : Option Addr) (n c : Nat) (level : Int) (w : World) (hv : level < 0 ∨ 4 < level) :
    Calls Try.prog 16 #[.slice A n c, .int .i64 level] w fun e w' => e = .returned (.tuple #[.int .i64 0, .int .i64 1]) ∧ w = w' := by
  rcases hv with h | h
  · go_enter Try.func16, Try.ntmps16
    go_wp2
    go_ret2
    exact ⟨rfl, rfl⟩
  · have h' : ¬ level < 0 := by omega
    go_enter Try.func16, Try.ntmps16
    go_wp2
    go_ret2
    exact ⟨rfl, rfl⟩
end Go.Proofs.Ytlfccmipfijjbaa
