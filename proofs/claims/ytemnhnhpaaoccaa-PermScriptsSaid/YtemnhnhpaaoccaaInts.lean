/- []int64: append, SameInts. -/
import Derived.Test.YtemnhnhpaaoccaaProg
import Derived.Test.YtemnhnhpaaoccaaPermPlain
import Derived.Test.YtemnhnhpaaoccaaBase3
import Derived.Outline
import Derived.BigQuiet
import Derived.WalkLawsBesides
namespace Go.Proofs.Ytemnhnhpaaoccaa
open Go.RowKit

theorem info_i64 : (Try.prog.info? 2).map (fun i => (i.zero, i.size, i.bytes)) = some (some (.int .i64 0), 1, 8) := by kernel_rfl
theorem size_i64 : ∀ u : World, (sizeOf 2).run Try.prog u = .ok 1 u := fun _ => by kernel_rfl
/-- append of numbers onto a list of the call's own -/
theorem app_i64 {ops : Array Oper} {rest : List Oper} {o : Oper} {a : Act} {Q : Exit → Act → World → Prop} (w : World) (hgd : o.guard = none) (s x : Operand)
    (ho : o.op = .call { callee := .builtin .append, args := #[s, x], argTypes := #[22, 22] })
    (base : Nat) {B : Option Addr} {n cb : Nat} {xs : List Int} (hs : a.eval s = .slice B n cb) (hown : w.ownsRow base 2 1 (.slice B n cb) n (ivals xs))
    {A : Option Addr} {m c : Nat} {news : List Int} (hx : a.eval x = .slice A m c) (hl : news.length = m) (hr : Rd w A (ivals news)) (hb : n + m ≤ 17592186044416) (hbase : base ≤ w.heap.size)
    (h : ∀ B' cb' w', w'.ownsRow base 2 1 (.slice B' (n + m) cb') (n + m) (ivals (xs ++ news)) → w.grownBy w' (Value.slice B n cb).ownBlock →
      ((Value.slice B' (n + m) cb').ownBlock = (Value.slice B n cb).ownBlock ∨ (Value.slice B' (n + m) cb').ownBlock = some w.heap.size) → wpList Try.prog ops Q rest (a.put o.dst (.slice B' (n + m) cb')) w') :
    wpList Try.prog ops Q (o :: rest) a w := by
  obtain ⟨i0, hi, hz0, hz1, hz2⟩ := info_parts info_i64
  refine wpList_append_rd w hgd s x 22 ho base 2 Try.underlying22 hi hz0 hz1 hz2 rfl (by decide) hs hown hx (by rw [ivals_len, hl, Nat.mul_one]) hr (ivals_one _) (by unfold maxLen; omega) (by omega) hbase ?_
  intro B' cb' w' h2 h3 h4
  rw [← ivals_append] at h2
  exact h B' cb' w' h2 h3 h4
theorem own0I (w : World) : (w.alloc (.cells #[] 2)).ownsRow w.heap.size 2 1 (.slice (some ⟨w.heap.size, 0, none⟩) 0 0) 0 (ivals []) := own_made w [] 2 1 0 rfl (Nat.zero_le _) (Nat.le_refl _)
/-- only draws -/
def RetQ (v : Value) (w : World) (e : Ending) (w' : World) : Prop := e = .returned v ∧ ∃ q, w' = w.drewN q
def same (xs ys : List Int) : Bool := decide (xs = ys)

theorem sameI_len (A B : Option Addr) (n c m d : Nat) (w : World) (h : n ≠ m) :
    Calls Try.prog 12 #[.slice A n c, .slice B m d] w (RetQ (.bool false) w) := by
  go_enter Try.func12, Try.ntmps12
  go_wp2
  go_ret
  exact ⟨rfl, 0, rfl⟩
set_option maxHeartbeats 400000 in
theorem sameI_any' (A B : Option Addr) (n c d : Nat) (xs ys : List Int) (w : World) (hl : xs.length = n) (hl' : ys.length = n) (hn : n ≤ 9223372036854775807) (hr : Rd w A (ivals xs)) (hr' : Rd w B (ivals ys)) :
    Calls Try.prog 12 #[.slice A n c, .slice B n d] w (RetQ (.bool (same xs ys)) w) := by
  have Hl := Lib.hid hl; have Hr := Lib.hid hr; have Hl' := Lib.hid hl'; have Hr' := Lib.hid hr'; clear hl hr hl' hr'
  go_enter Try.func12, Try.ntmps12
  go_wp2
  go_loopw [13] (fun i wr => ∃ k q : Nat, k ≤ n ∧ i = .int .i64 k ∧ wr = w.drewN q ∧ xs.take k = ys.take k) (fun i _ => n - (intOf i).toNat)
  case atStart => exact ⟨0, 0, Nat.zero_le _, rfl, rfl, rfl⟩
  case round =>
    obtain ⟨k, q, hk, rfl, rfl, htk⟩ := hrel
    have Htk := Lib.hid htk; clear htk
    by_cases hlt : k < n
    · obtain ⟨x, hx⟩ : ∃ x, Hid (xs.getD k 0 = x) := ⟨_, rfl⟩
      obtain ⟨y, hy⟩ : ∃ y, Hid (ys.getD k 0 = y) := ⟨_, rfl⟩
      obtain ⟨b, off, hA, _, hc⟩ := Hr.out.atI (j := k) (by rw [Hl.out]; exact hlt)
      obtain ⟨b', off', hA', _, hc'⟩ := Hr'.out.atI (j := k) (by rw [Hl'.out]; exact hlt)
      rw [hx.out] at hc; rw [hy.out] at hc'
      subst hA hA'
      by_cases hxy : x = y
      · subst hxy
        go_wp2
        go_quiet (fail)
        go_wp2
        go_roundw
        case rel => exact ⟨k + 1, _, by omega, by go_num, rfl, by rw [take_succI (by rw [Hl.out]; exact hlt), take_succI (by rw [Hl'.out]; exact hlt), Htk.out, hx.out, hy.out]⟩
        case measure => simp [intOf]; omega
      · go_wp2
        go_quiet (fail)
        go_wp2
        go_ret
        exact ⟨ret_bool (Eq.symm (decide_eq_false (by rintro rfl; exact hxy (hx.out.symm.trans hy.out)))), q + nq, drewN_add w q nq⟩
    · go_wp2
      go_ret
      exact ⟨ret_bool (Eq.symm (decide_eq_true (by have h := Htk.out; rwa [List.take_of_length_le (by rw [Hl.out]; omega), List.take_of_length_le (by rw [Hl'.out]; omega)] at h))), q, rfl⟩
theorem sameI_any (A B : Option Addr) (n c m d : Nat) (xs ys : List Int) (w : World) (hl : xs.length = n) (hl' : ys.length = m) (hn : n ≤ 9223372036854775807) (hr : Rd w A (ivals xs)) (hr' : Rd w B (ivals ys)) :
    Calls Try.prog 12 #[.slice A n c, .slice B m d] w (RetQ (.bool (same xs ys)) w) := by
  by_cases h : n = m
  · subst h
    exact sameI_any' A B n c d xs ys w hl hl' hn hr hr'
  · have e : same xs ys = false := decide_eq_false (by rintro rfl; omega)
    rw [e]
    exact sameI_len A B n c m d w h
end Go.Proofs.Ytemnhnhpaaoccaa
