/- hash.Order and the document's. -/
import Derived.Test.YtlgggeeflomelaaOrdPlain
import Derived.Test.YtlgggeeflomelaaBytes
import Derived.Outline
import Derived.WalkLawsBesides
namespace Go.Proofs.Ytlgggeeflomelaa
open Go.RowKit

theorem findNext31 : Extern.findNext Try.f118 = none := by kernel_rfl
set_option maxRecDepth 100000 in
theorem cmp_call (args : Array Value) (w : World) : (callFunc 118 args).run Try.prog w = ((Extern.BytealgCompare.compare args).run Try.prog w).andThen fun v w' => .ok (.value v) w' :=
  run_callFunc_extern Try.func118 (by kernel_rfl) (by kernel_rfl) (by kernel_rfl) (e := Extern.BytealgCompare.compare) (by kernel_rfl) args w

set_option maxRecDepth 100000 in
set_option maxHeartbeats 400000 in
theorem bcompare_any (A B : Option Addr) (n c m d : Nat) (xs ys : List Nat) (w : World) (hl : xs.length = n) (hl' : ys.length = m) (hb : ∀ x ∈ xs, x < 256) (hb' : ∀ x ∈ ys, x < 256) (hr : Rd w A (vals .u8 xs)) (hr' : Rd w B (vals .u8 ys)) :
    Calls Try.prog 113 #[.slice A n c, .slice B m d] w fun e w' => e = .returned (.int .i64 (ord xs ys)) ∧ w = w' := by
  have hrun := Lib.hid (run_cmpB (P := Try.prog) (c := c) (d := d) hl hr hl' hr' hb hb')
  clear hl hl' hr hr' hb hb'
  go_enter Try.func113, Try.ntmps113
  go_wp2_with fail
  rw [cmp_call, hrun.out]
  simp only [Result.andThen]
  rw [Oper.upon_value]
  go_wp2
  go_ret
  exact ⟨rfl, rfl⟩
theorem order_any (A B : Option Addr) (n c m d : Nat) (xs ys : List Nat) (w : World) (hl : xs.length = n) (hl' : ys.length = m) (hb : ∀ x ∈ xs, x < 256) (hb' : ∀ x ∈ ys, x < 256) (hr : Rd w A (vals .u8 xs)) (hr' : Rd w B (vals .u8 ys)) :
    Calls Try.prog 107 #[.slice A n c, .slice B m d] w fun e w' => e = .returned (.int .i64 (ord xs ys)) ∧ w = w' := by
  have c1 := Lib.hid (bcompare_any A B n c m d xs ys w hl hl' hb hb' hr hr')
  clear hl hl' hr hr' hb hb'
  go_enter Try.func107, Try.ntmps107
  go_wp2_with fail
  refine c1.out.mono ?_
  rintro e w' ⟨rfl, rfl⟩
  go_wp2
  go_ret
  exact ⟨rfl, rfl⟩

set_option maxHeartbeats 1000000 in
theorem refOrder_any (A B : Option Addr) (n c m d : Nat) (xs ys : List Nat) (w : World) (hl : xs.length = n) (hl' : ys.length = m) (hn : n ≤ 9223372036854775807) (_hm : m ≤ 9223372036854775807) (hb : ∀ x ∈ xs, x < 256) (hb' : ∀ x ∈ ys, x < 256) (hr : Rd w A (vals .u8 xs)) (hr' : Rd w B (vals .u8 ys)) :
    Calls Try.prog 97 #[.slice A n c, .slice B m d] w (RetQ (.int .i64 (ord xs ys)) w) := by
  have Hl := Lib.hid hl; have Hr := Lib.hid hr; have Hl' := Lib.hid hl'; have Hr' := Lib.hid hr'; have Hb := Lib.hid hb; have Hb' := Lib.hid hb'; clear hl hr hl' hr' hb hb'
  go_enter Try.func97, Try.ntmps97
  go_wp2
  go_loopw [5] (fun i wr => ∃ k q : Nat, k ≤ n ∧ k ≤ m ∧ i = .int .i64 k ∧ wr = w.drewN q ∧ xs.take k = ys.take k) (fun i _ => n - (intOf i).toNat)
  case atStart => exact ⟨0, 0, Nat.zero_le _, Nat.zero_le _, rfl, rfl, rfl⟩
  case round =>
    obtain ⟨k, q, hk, hk', rfl, rfl, htk⟩ := hrel
    have Htk := Lib.hid htk; clear htk
    by_cases hlt : k < n
    · by_cases hlt' : k < m
      · obtain ⟨x, hx⟩ := get_of_lt (xs := xs) (j := k) (by rw [Hl.out]; exact hlt)
        obtain ⟨y, hy⟩ := get_of_lt (xs := ys) (j := k) (by rw [Hl'.out]; exact hlt')
        have hx256 : x < 256 := Hb.out x (List.mem_of_getElem? hx)
        have hy256 : y < 256 := Hb'.out y (List.mem_of_getElem? hy)
        obtain ⟨b, off, hA, _, hc⟩ := Hr.out.at_ hx
        obtain ⟨b', off', hA', _, hc'⟩ := Hr'.out.at_ hy
        have Hv := Lib.hid (ord_at Htk.out hx hy)
        have Hx := Lib.hid hx; have Hy := Lib.hid hy; clear hx hy
        subst hA hA'
        by_cases hxy : x < y
        · go_wp2
          go_quiet (fail)
          go_wp2
          go_ret
          exact ⟨ret_int (by rw [Hv.out, if_pos hxy]), _, drewN_add w q _⟩
        · by_cases hyx : y < x
          · go_wp2
            go_quiet (fail)
            go_wp2
            go_quiet (fail)
            go_wp2
            go_ret
            exact ⟨ret_int (by rw [Hv.out, if_neg hxy, if_pos hyx]), _, by simp only [drewN_add]; rfl⟩
          · go_wp2
            go_quiet (fail)
            go_wp2
            go_quiet (fail)
            go_wp2
            go_roundw
            case rel => exact ⟨k + 1, _, by omega, by omega, by go_num, by first | rfl | (simp only [drewN_add]; rfl), by rw [take_succ_of Hx.out, take_succ_of Hy.out, Htk.out, show x = y by omega]⟩
            case measure => simp [intOf]; omega
      · have Hv := Lib.hid (ord_end Htk.out (by rw [Hl.out]; omega) (by rw [Hl'.out]; omega) (Or.inr (by rw [Hl'.out]; omega)))
        have hmn : m < n := by omega
        go_wp2
        go_ret
        exact ⟨ret_int (by rw [Hv.out, Hl.out, Hl'.out, if_neg (by omega), if_pos (by omega)]), q, rfl⟩
    · have Hv := Lib.hid (ord_end Htk.out (by rw [Hl.out]; omega) (by rw [Hl'.out]; omega) (Or.inl (by rw [Hl.out]; omega)))
      by_cases hmn : n < m
      · go_wp2
        go_ret
        exact ⟨ret_int (by rw [Hv.out, Hl.out, Hl'.out, if_pos (by omega)]), q, rfl⟩
      · have hmn' : ¬ m < n := by omega
        go_wp2
        go_ret
        exact ⟨ret_int (by rw [Hv.out, Hl.out, Hl'.out, if_neg (by omega), if_neg (by omega)]), q, rfl⟩
end Go.Proofs.Ytlgggeeflomelaa
