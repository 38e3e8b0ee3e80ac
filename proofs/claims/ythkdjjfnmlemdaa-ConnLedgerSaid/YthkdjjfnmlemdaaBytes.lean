/- What the small functions on lists of bytes answer: SameBytes, Twin, Spare, Kept of the document; bytes.Clone. -/
import Derived.Test.YthkdjjfnmlemdaaProg
import Derived.Test.YthkdjjfnmlemdaaBase
import Derived.Outline
import Derived.BigQuiet
import Derived.WalkLawsBesides
namespace Go.Proofs.Ythkdjjfnmlemdaa
open Go.RowKit

theorem info_u8 : (Try.prog.info? 5).map (fun i => (i.zero, i.size, i.bytes)) = some (some (.int .u8 0), 1, 1) := by kernel_rfl

theorem size_u8 : ∀ u : World, (sizeOf 5).run Try.prog u = .ok 1 u := fun _ => by kernel_rfl

/-- append of bytes onto bytes of the call's own -/
theorem app_u8 {ops : Array Oper} {rest : List Oper} {o : Oper} {a : Act} {Q : Exit → Act → World → Prop} (w : World) (hgd : o.guard = none) (s x : Operand)
    (ho : o.op = .call { callee := .builtin .append, args := #[s, x], argTypes := #[28, 28] })
    (base : Nat) {B : Option Addr} {n cb : Nat} {xs : List Nat} (hs : a.eval s = .slice B n cb) (hown : w.ownsRow base 5 1 (.slice B n cb) n (vals .u8 xs))
    {A : Option Addr} {m c : Nat} {news : List Nat} (hx : a.eval x = .slice A m c) (hl : news.length = m) (hr : Rd w A (vals .u8 news)) (hb : n + m ≤ 140737488355328) (hbase : base ≤ w.heap.size)
    (h : ∀ B' cb' w', w'.ownsRow base 5 1 (.slice B' (n + m) cb') (n + m) (vals .u8 (xs ++ news)) → w.grownBy w' (Value.slice B n cb).ownBlock →
      ((Value.slice B' (n + m) cb').ownBlock = (Value.slice B n cb).ownBlock ∨ (Value.slice B' (n + m) cb').ownBlock = some w.heap.size) → wpList Try.prog ops Q rest (a.put o.dst (.slice B' (n + m) cb')) w') :
    wpList Try.prog ops Q (o :: rest) a w := by
  obtain ⟨i0, hi, hz0, hz1, hz2⟩ := info_parts info_u8
  refine wpList_append_rd w hgd s x 28 ho base 5 Try.underlying28 hi hz0 hz1 hz2 rfl (by decide) hs hown hx (by rw [vals_len, hl, Nat.mul_one]) hr (vals_one _ _) (by unfold maxLen; omega) (by omega) hbase ?_
  intro B' cb' w' h2 h3 h4
  rw [← vals_append] at h2
  exact h B' cb' w' h2 h3 h4

theorem own0 (w : World) : (w.alloc (.cells #[] 5)).ownsRow w.heap.size 5 1 (.slice (some ⟨w.heap.size, 0, none⟩) 0 0) 0 (vals .u8 []) := own_made w [] 5 1 0 rfl (Nat.zero_le _) (Nat.le_refl _)

/-- an answer that is a list of bytes in new memory -/
def RetB (xs : List Nat) (w : World) (e : Ending) (w' : World) : Prop :=
  ∃ A c, e = .returned (.slice A xs.length c) ∧ w'.ownsRow w.heap.size 5 1 (.slice A xs.length c) xs.length (vals .u8 xs) ∧ Ext w w'

theorem retB_of {n c : Nat} {xs : List Nat} (hl : xs.length = n) {w w' : World} {A : Option Addr} (ho : w'.ownsRow w.heap.size 5 1 (.slice A n c) n (vals .u8 xs)) (hb : Ext w w') :
    RetB xs w (.returned (.slice A n c)) w' := by
  subst hl
  exact ⟨A, c, rfl, ho, hb⟩

set_option maxHeartbeats 400000 in
theorem twin_any (A : Option Addr) (n c : Nat) (xs : List Nat) (w : World) (hl : xs.length = n) (hn : n ≤ 140737488355328) (hr : Rd w A (vals .u8 xs)) :
    Calls Try.prog 71 #[.slice A n c] w (RetB xs w) := by
  have Hl := Lib.hid hl; clear hl
  have Hr := Lib.hid hr; clear hr
  go_enter Try.func71, Try.ntmps71
  go_wp2_with (at_builtin; refine app_u8 _ rfl (.tmp 3) (.tmp 4) rfl w.heap.size rfl (own0 w) rfl Hl.out (Hr.out.alloc _) (by omega) (by simp) ?_; intro A' c' w1 hown hgrow _; simp only [Nat.zero_add, List.nil_append] at hown)
  go_ret
  exact retB_of Hl.out hown (((Ext.refl w).alloc _).grown hgrow (by simp [Value.ownBlock]))

theorem nilq (w : World) (A : Option Addr) (n c n' c' : Nat) : (binOp .eql 28 (.slice A n c) (.slice none n' c')).run Try.prog w = .ok (.bool A.isNone) w := Lib.run_eql_slice_nil w _ _ A n c n' c' Try.underlying28

/-- bytes.Clone: nil of nil; else new memory -/
def RetClone (isNil : Bool) (xs : List Nat) (w : World) (e : Ending) (w' : World) : Prop :=
  if isNil then e = .returned (.slice none 0 0) ∧ w = w' else RetB xs w e w'
set_option maxHeartbeats 400000 in
theorem clone_some (a : Addr) (n c : Nat) (xs : List Nat) (w : World) (hl : xs.length = n) (hn : n ≤ 140737488355328) (hr : Rd w (some a) (vals .u8 xs)) :
    Calls Try.prog 61 #[.slice (some a) n c] w (RetB xs w) := by
  have Hl := Lib.hid hl; clear hl
  have Hr := Lib.hid hr; clear hr
  have q := nilq
  go_enter Try.func61, Try.ntmps61
  go_wp2_with (at_builtin; refine app_u8 _ rfl (.tmp 5) (.tmp 6) rfl w.heap.size rfl (own0 w) rfl Hl.out (Hr.out.alloc _) (by omega) (by simp) ?_; intro A' c' w1 hown hgrow _; simp only [Nat.zero_add, List.nil_append] at hown)
  go_ret
  exact retB_of Hl.out hown (((Ext.refl w).alloc _).grown hgrow (by simp [Value.ownBlock]))
theorem clone_nil (w : World) (n c : Nat) :
    Calls Try.prog 61 #[.slice none n c] w fun e w' => e = .returned (.slice none 0 0) ∧ w = w' := by
  have q := nilq
  go_enter Try.func61, Try.ntmps61
  go_wp2
  go_ret
  exact ⟨rfl, rfl⟩

def same (xs ys : List Nat) : Bool := decide (xs = ys)
/-- only draws -/
def RetQ (v : Value) (w : World) (e : Ending) (w' : World) : Prop := e = .returned v ∧ ∃ q, w' = w.drewN q

set_option maxHeartbeats 400000 in
theorem same_len (A B : Option Addr) (n c m d : Nat) (w : World) (h : n ≠ m) :
    Calls Try.prog 20 #[.slice A n c, .slice B m d] w (RetQ (.bool false) w) := by
  go_enter Try.func20, Try.ntmps20
  go_wp2
  go_ret
  exact ⟨rfl, 0, rfl⟩
set_option maxHeartbeats 400000 in
theorem same_any' (A B : Option Addr) (n c d : Nat) (xs ys : List Nat) (w : World) (hl : xs.length = n) (hl' : ys.length = n) (hn : n ≤ 9223372036854775807) (hb : ∀ x ∈ xs, x < 256) (hb' : ∀ x ∈ ys, x < 256) (hr : Rd w A (vals .u8 xs)) (hr' : Rd w B (vals .u8 ys)) :
    Calls Try.prog 20 #[.slice A n c, .slice B n d] w (RetQ (.bool (same xs ys)) w) := by
  have Hl := Lib.hid hl; have Hr := Lib.hid hr; have Hl' := Lib.hid hl'; have Hr' := Lib.hid hr'; have Hb := Lib.hid hb; have Hb' := Lib.hid hb'; clear hl hr hl' hr' hb hb'
  go_enter Try.func20, Try.ntmps20
  go_wp2
  go_loopw [13] (fun i wr => ∃ k q : Nat, k ≤ n ∧ i = .int .i64 k ∧ wr = w.drewN q ∧ xs.take k = ys.take k) (fun i _ => n - (intOf i).toNat)
  case atStart => exact ⟨0, 0, Nat.zero_le _, rfl, rfl, rfl⟩
  case round =>
    obtain ⟨k, q, hk, rfl, rfl, htk⟩ := hrel
    have Htk := Lib.hid htk; clear htk
    by_cases hlt : k < n
    · obtain ⟨x, hx⟩ := get_of_lt (xs := xs) (j := k) (by rw [Hl.out]; exact hlt)
      obtain ⟨y, hy⟩ := get_of_lt (xs := ys) (j := k) (by rw [Hl'.out]; exact hlt)
      obtain ⟨b, off, hA, _, hc⟩ := Hr.out.at_ hx
      obtain ⟨b', off', hA', _, hc'⟩ := Hr'.out.at_ hy
      have Hx := Lib.hid hx; have Hy := Lib.hid hy; clear hx hy
      subst hA hA'
      by_cases hxy : x = y
      · subst hxy
        go_wp2
        go_quiet (fail)
        go_wp2
        go_roundw
        case rel => exact ⟨k + 1, _, by omega, by go_num, rfl, by rw [take_succ_of Hx.out, take_succ_of Hy.out, Htk.out]⟩
        case measure => simp [intOf]; omega
      · go_wp2
        go_quiet (fail)
        go_wp2
        go_ret
        exact ⟨ret_bool (Eq.symm (decide_eq_false (by rintro rfl; have := Hx.out.symm.trans Hy.out; injection this with this; exact hxy this))), q + nq, drewN_add w q nq⟩
    · go_wp2
      go_ret
      exact ⟨ret_bool (Eq.symm (decide_eq_true (by have h := Htk.out; rwa [List.take_of_length_le (by rw [Hl.out]; omega), List.take_of_length_le (by rw [Hl'.out]; omega)] at h))), q, rfl⟩
theorem same_any (A B : Option Addr) (n c m d : Nat) (xs ys : List Nat) (w : World) (hl : xs.length = n) (hl' : ys.length = m) (hn : n ≤ 9223372036854775807) (hb : ∀ x ∈ xs, x < 256) (hb' : ∀ x ∈ ys, x < 256) (hr : Rd w A (vals .u8 xs)) (hr' : Rd w B (vals .u8 ys)) :
    Calls Try.prog 20 #[.slice A n c, .slice B m d] w (RetQ (.bool (same xs ys)) w) := by
  by_cases h : n = m
  · subst h
    exact same_any' A B n c d xs ys w hl hl' hn hb hb' hr hr'
  · have e : same xs ys = false := decide_eq_false (by rintro rfl; omega)
    rw [e]
    exact same_len A B n c m d w h

/-- a list with marked room behind it, and the whole of it -/
def RetSpare (xs : List Nat) (w : World) (e : Ending) (w' : World) : Prop :=
  ∃ A c, e = .returned (.tuple #[.slice A xs.length c, .slice A (xs.length + 3) c]) ∧ w'.ownsRow w.heap.size 5 1 (.slice A (xs.length + 3) c) (xs.length + 3) (vals .u8 (xs ++ [165, 90, 165])) ∧ Ext w w'

theorem spare_of {n c : Nat} {xs : List Nat} (hl : xs.length = n) {w w' : World} {A : Option Addr} (ho : w'.ownsRow w.heap.size 5 1 (.slice A (n + 3) c) (n + 3) (vals .u8 (xs ++ [165, 90, 165]))) (hb : Ext w w') :
    RetSpare xs w (.returned (.tuple #[.slice A n c, .slice A (n + 3) c])) w' := by
  subst hl
  exact ⟨A, c, rfl, ho, hb⟩
theorem rd_take {w : World} {A : Option Addr} {k : IntKind} {xs ys : List Nat} (h : Rd w A (vals k (xs ++ ys))) : Rd w A (vals k xs) := by
  intro hne
  obtain ⟨b, off, hA, hc⟩ := h (by intro e; rw [vals_append] at e; exact hne (List.append_eq_nil_iff.1 e).1)
  exact ⟨b, off, hA, fun j u hu => hc j u (by rw [vals_append, List.getElem?_append_left (List.getElem?_eq_some_iff.1 hu).1]; exact hu)⟩
set_option maxHeartbeats 400000 in
theorem spare_any (A : Option Addr) (n c : Nat) (xs : List Nat) (w : World) (hl : xs.length = n) (hn : n ≤ 140737488351232) (hr : Rd w A (vals .u8 xs)) :
    Calls Try.prog 17 #[.slice A n c] w (RetSpare xs w) := by
  have Hl := Lib.hid hl; clear hl
  have Hr := Lib.hid hr; clear hr
  go_enter Try.func17, Try.ntmps17
  go_wp2_with (first | (at_builtin; refine app_u8 _ rfl (.tmp 5) (.tmp 6) rfl w.heap.size rfl (own0 w) rfl Hl.out (Hr.out.alloc _) (by omega) (by simp) ?_; intro A1 c1 w1 hown1 hgrow1 _; simp only [Nat.zero_add, List.nil_append] at hown1) | (at_builtin; refine app_u8 _ rfl (.tmp 7) (.tmp 8) rfl w.heap.size rfl (hown1.alloc _) rfl (m := 3) (news := [165, 90, 165]) rfl (rd_new _ _ _) (by omega) (by have := hgrow1.size; simp at this ⊢; omega) ?_; intro A2 c2 w2 hown2 hgrow2 hblk2; have hcap2 := own_cap hown2))
  go_ret2
  exact spare_of Hl.out hown2 ((((((Ext.refl w).alloc _).grown hgrow1 (by simp [Value.ownBlock])).alloc _).grown hgrow2 (own_ge hown1)))

set_option maxHeartbeats 400000 in
theorem kept_true (F A : Option Addr) (n m c d : Nat) (xs : List Nat) (w : World) (hl : xs.length = n) (hm : n + 3 = m) (hmc : m ≤ c) (hn : n ≤ 9223372036854775804) (hb : ∀ x ∈ xs, x < 256)
    (hr : Rd w F (vals .u8 (xs ++ [165, 90, 165]))) (hr' : Rd w A (vals .u8 xs)) :
    Calls Try.prog 26 #[.slice F m c, .slice A n d] w (RetQ (.bool true) w) := by
  subst hm
  have hcap : n + 3 ≤ c := hmc
  have h1 := hr.at_ (k := .u8) (j := n) (x := 165) (by rw [List.getElem?_append_right (by omega), hl, Nat.sub_self]; rfl)
  have h2 := hr.at_ (k := .u8) (j := n + 1) (x := 90) (by rw [List.getElem?_append_right (by omega), hl, show n + 1 - n = 1 from by omega]; rfl)
  have h3 := hr.at_ (k := .u8) (j := n + 2) (x := 165) (by rw [List.getElem?_append_right (by omega), hl, show n + 2 - n = 2 from by omega]; rfl)
  obtain ⟨b, off, hA, _, hc1⟩ := h1
  obtain ⟨b', off', hA', _, hc2⟩ := h2
  obtain ⟨b'', off'', hA'', _, hc3⟩ := h3
  have hF : Rd w F (vals .u8 xs) := rd_take hr
  subst hA
  injection hA' with hA'; injection hA' with e1 e2 _; subst e1 e2
  injection hA'' with hA''; injection hA'' with e1 e2 _; subst e1 e2
  have c1 := Lib.hid (same_any (some ⟨b, off, none⟩) A n c n d xs xs w hl hl (by omega) hb hb hF hr')
  have e : same xs xs = true := decide_eq_true rfl
  rw [e] at c1
  have hc1' : ∀ q, (w.drewN q).cell? ⟨b, off + n, none⟩ = some (.int .u8 165) := fun _ => hc1
  have hc2' : ∀ q, (w.drewN q).cell? ⟨b, off + (n + 1), none⟩ = some (.int .u8 90) := fun _ => hc2
  have hc3' : ∀ q, (w.drewN q).cell? ⟨b, off + (n + 2), none⟩ = some (.int .u8 165) := fun _ => hc3
  clear hr hr' hF hb hl hc1 hc2 hc3
  go_enter Try.func26, Try.ntmps26
  go_wp2_with fail
  refine c1.out.mono ?_
  rintro e w' ⟨rfl, q, rfl⟩
  go_wp2
  go_ret
  exact ⟨rfl, q, rfl⟩
end Go.Proofs.Ythkdjjfnmlemdaa
