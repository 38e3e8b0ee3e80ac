/- the document's Check, Has; slices: BinarySearch, Index, Contains, Clone. -/
import Derived.Test.YtemnhnhpaaoccaaPermA
import Derived.Deep.DeepCutAuto
namespace Go.Proofs.Ytemnhnhpaaoccaa
open Go.RowKit

set_option maxHeartbeats 1000000 in
theorem refHas_any (w : World) (t : Int) (A : Option Addr) (n c : Nat) (xs : List Int) (hl : xs.length = n) (hn : n ≤ 17592186044416) (hr : Rd w A (ivals xs)) :
    Calls Try.prog 22 #[.slice A n c, .int .i64 t] w (RetQ (.bool (decide (t ∈ xs))) w) := by
  have Hl := Lib.hid hl; have Hr := Lib.hid hr; clear hl hr
  go_enter Try.func22, Try.ntmps22
  go_wp2
  go_loopw [9] (fun i wr => ∃ k q : Nat, k ≤ n ∧ i = .int .i64 (k : Int) ∧ wr = w.drewN q ∧ ∀ j, j < k → xs.getD j 0 ≠ t) (fun i _ => n - (intOf i).toNat)
  case atStart => exact ⟨0, 0, Nat.zero_le _, rfl, rfl, fun j hj => by omega⟩
  case round =>
    obtain ⟨k, q, hk, rfl, rfl, hno⟩ := hrel
    have Hno := Lib.hid hno; clear hno
    by_cases hlt : k < n
    · obtain ⟨b, off, hA, _, hc⟩ := (Hr.out.drewN q).atI (j := k) (by rw [Hl.out]; exact hlt)
      obtain ⟨x, Hx⟩ : ∃ x, Hid (xs.getD k 0 = x) := ⟨_, rfl⟩
      rw [Hx.out] at hc
      subst hA
      by_cases hxt : x = t
      · have hb : (x == t) = true := by simp [hxt]
        have Hxt := Lib.hid hxt; clear hxt
        go_wp2
        go_ret
        exact ⟨ret_bool (decide_eq_true (mem_getD.2 ⟨k, by rw [Hl.out]; exact hlt, by rw [Hx.out, Hxt.out]⟩)).symm, q, rfl⟩
      · have hb : (x == t) = false := by simp [hxt]
        have Hxt := Lib.hid hxt; clear hxt
        go_wp2
        go_roundw
        case rel =>
          refine ⟨k + 1, q, by omega, by go_num, rfl, fun j hj => ?_⟩
          by_cases e : j = k
          · rw [e, Hx.out]; exact Hxt.out
          · exact Hno.out j (by omega)
        case measure => simp [intOf]; omega
    · go_wp2
      go_ret
      refine ⟨ret_bool (decide_eq_false fun hm => ?_).symm, q, rfl⟩
      obtain ⟨j, hj, e⟩ := mem_getD.1 hm
      rw [Hl.out] at hj
      exact Hno.out j (by omega) e
set_option maxHeartbeats 1000000 in
theorem index_any (w : World) (t : Int) (A : Option Addr) (n c : Nat) (xs : List Int) (hl : xs.length = n) (hn : n ≤ 17592186044416) (hr : Rd w A (ivals xs)) :
    Calls Try.prog 35 #[.slice A n c, .int .i64 t] w fun e w' => ∃ r : Int, e = .returned (.int .i64 r) ∧ (0 ≤ r ↔ t ∈ xs) ∧ ∃ q, w' = w.drewN q := by
  have Hl := Lib.hid hl; have Hr := Lib.hid hr; clear hl hr
  go_enter Try.func35, Try.ntmps35
  go_wp2
  go_loopw [8] (fun i wr => ∃ k q : Nat, k ≤ n ∧ i = .int .i64 (k : Int) ∧ wr = w.drewN q ∧ ∀ j, j < k → xs.getD j 0 ≠ t) (fun i _ => n - (intOf i).toNat)
  case atStart => exact ⟨0, 0, Nat.zero_le _, rfl, rfl, fun j hj => by omega⟩
  case round =>
    obtain ⟨k, q, hk, rfl, rfl, hno⟩ := hrel
    have Hno := Lib.hid hno; clear hno
    by_cases hlt : k < n
    · obtain ⟨b, off, hA, _, hc⟩ := (Hr.out.drewN q).atI (j := k) (by rw [Hl.out]; exact hlt)
      obtain ⟨x, Hx⟩ : ∃ x, Hid (xs.getD k 0 = x) := ⟨_, rfl⟩
      rw [Hx.out] at hc
      subst hA
      by_cases hxt : t = x
      · have hb : (t == x) = true := by simp [hxt]
        have Hxt := Lib.hid hxt; clear hxt
        go_wp2
        go_ret
        exact ⟨_, rfl, ⟨fun _ => mem_getD.2 ⟨k, by rw [Hl.out]; exact hlt, by rw [Hx.out, Hxt.out]⟩, fun _ => by omega⟩, q, rfl⟩
      · have hb : (t == x) = false := by simp [hxt]
        have Hxt := Lib.hid hxt; clear hxt
        go_wp2
        go_roundw
        case rel =>
          refine ⟨k + 1, q, by omega, by go_num, rfl, fun j hj => ?_⟩
          by_cases e : j = k
          · rw [e, Hx.out]; exact fun h => Hxt.out h.symm
          · exact Hno.out j (by omega)
        case measure => simp [intOf]; omega
    · go_wp2
      go_ret
      refine ⟨_, rfl, ⟨fun h => by omega, fun hm => ?_⟩, q, rfl⟩
      obtain ⟨j, hj, e⟩ := mem_getD.1 hm
      rw [Hl.out] at hj
      exact absurd e (Hno.out j (by omega))
theorem contains_any (w : World) (t : Int) (A : Option Addr) (n c : Nat) (xs : List Int) (hl : xs.length = n) (hn : n ≤ 17592186044416) (hr : Rd w A (ivals xs)) :
    Calls Try.prog 30 #[.slice A n c, .int .i64 t] w (RetQ (.bool (decide (t ∈ xs))) w) := by
  have C := Lib.hid (index_any w t A n c xs hl hn hr); clear hl hr
  go_enter Try.func30, Try.ntmps30
  go_wp2_with fail
  refine C.out.mono ?_
  rintro e w1 ⟨r, rfl, hiff, q, rfl⟩
  have Hiff := Lib.hid hiff; clear hiff
  by_cases h : 0 ≤ r
  · go_wp2_with fail
    go_ret
    exact ⟨ret_bool (decide_eq_true (Hiff.out.1 h)).symm, q, rfl⟩
  · go_wp2_with fail
    go_ret
    exact ⟨ret_bool (decide_eq_decide.2 Hiff.out), q, rfl⟩
theorem less_any (w : World) (x t : Int) : Calls Try.prog 31 #[.int .i64 x, .int .i64 t] w (RetE (.bool (decide (x < t))) w) := by
  by_cases h : x < t
  · rw [decide_eq_true h]
    go_enter Try.func31, Try.ntmps31
    go_wp2
    go_ret
    exact ⟨rfl, Ext.refl w⟩
  · rw [decide_eq_false h]
    go_enter Try.func31, Try.ntmps31
    go_wp2
    go_ret
    exact ⟨rfl, Ext.refl w⟩
set_option maxHeartbeats 1000000 in
theorem search_any (w : World) (t : Int) (A : Option Addr) (n c : Nat) (xs : List Int) (hl : xs.length = n) (hn : n ≤ 17592186044416) (hr : Rd w A (ivals xs)) (hg : GoodL xs) (at_ : Nat) (ha : At xs t at_) :
    Calls Try.prog 26 #[.slice A n c, .int .i64 t] w (RetE (.tuple #[.int .i64 (at_ : Int), .bool (decide (t ∈ xs))]) w) := by
  have Hl := Lib.hid hl; have Hr := Lib.hid hr; have Ha := Lib.hid ha; have Hg := Lib.hid hg
  have Hm := Lib.hid (at_mem ha hg)
  clear hl hr ha hg
  go_enter Try.func26, Try.ntmps26
  go_wp2
  go_loopw [7, 8] (fun i j wr => ∃ a b : Nat, a ≤ at_ ∧ at_ ≤ b ∧ b ≤ n ∧ i = .int .i64 (a : Int) ∧ j = .int .i64 (b : Int) ∧ Ext w wr) (fun i j _ => (intOf j).toNat - (intOf i).toNat)
  case atStart => exact ⟨0, n, Nat.zero_le _, by have := Ha.out.1; rw [Hl.out] at this; exact this, Nat.le_refl _, rfl, rfl, Ext.refl w⟩
  case round =>
    obtain ⟨a, b, h1, h2, h3, rfl, rfl, hx⟩ := hrel
    by_cases hlt : a < b
    · obtain ⟨h, Hh⟩ : ∃ h, Hid ((a + b) / 2 = h) := ⟨_, rfl⟩
      have hh1 : a ≤ h := by have := Hh.out; omega
      have hh2 : h < b := by have := Hh.out; omega
      have hh3 : h < n := by omega
      have hw1 : IntKind.i64.wrap ((a : Int) + (b : Int)) = (a : Int) + (b : Int) := by rw [IntKind.wrap_i64]; omega
      have hw2 : IntKind.u64.wrap ((a : Int) + (b : Int)) = (a : Int) + (b : Int) := by rw [IntKind.wrap_u64]; omega
      obtain ⟨bb, off, hA, _, hc⟩ := (Hr.out.ext hx).atI (j := h) (by rw [Hl.out]; omega)
      obtain ⟨x, Hx⟩ : ∃ x, Hid (xs.getD h 0 = x) := ⟨_, rfl⟩
      rw [Hx.out] at hc
      subst hA
      have hq : ((a : Int) + (b : Int)) / 2 = (h : Int) := by have := Hh.out; omega
      go_upto_region 5 with fail
      clear hq hw1 hw2
      go_wp2_with fail
      refine (less_any wr x t).mono ?_
      rintro e w1 ⟨rfl, hy⟩
      by_cases hxt : x < t
      · rw [decide_eq_true hxt]
        have Hxt := Lib.hid hxt; clear hxt
        have hah : h < at_ := by
          refine Nat.lt_of_not_le fun hle => ?_
          have k1 := Ha.out.2.2 h hle (by rw [Hl.out]; exact hh3)
          have k2 := Hx.out
          have k3 := Hxt.out
          omega
        go_wp2_with fail
        go_roundw
        case rel => exact ⟨h + 1, b, by omega, by omega, by omega, by go_num, rfl, hx.trans hy⟩
        case measure => simp [intOf]; omega
      · rw [decide_eq_false hxt]
        have Hxt := Lib.hid hxt; clear hxt
        have hah : at_ ≤ h := by
          refine Nat.le_of_not_lt fun hle => ?_
          have k1 := Ha.out.2.1 h hle
          have k2 := Hx.out
          have k3 := Hxt.out
          omega
        go_wp2_with fail
        go_roundw
        case rel => exact ⟨a, h, by omega, by omega, by omega, rfl, rfl, hx.trans hy⟩
        case measure => simp [intOf]; omega
    · obtain rfl : a = at_ := by omega
      by_cases hlt2 : a < n
      · obtain ⟨bb, off, hA, _, hc⟩ := (Hr.out.ext hx).atI (j := a) (by rw [Hl.out]; omega)
        obtain ⟨x, Hx⟩ : ∃ x, Hid (xs.getD a 0 = x) := ⟨_, rfl⟩
        rw [Hx.out] at hc
        subst hA
        by_cases hxt : x = t
        · have hb : (x == t) = true := by simp [hxt]
          have Hxt := Lib.hid hxt; clear hxt
          go_wp2
          go_ret2
          exact ⟨ret_t2 rfl (bool_eq (decide_eq_true (Hm.out.2 ⟨by rw [Hl.out]; exact hlt2, by rw [Hx.out, Hxt.out]⟩)).symm), hx⟩
        · have hb : (x == t) = false := by simp [hxt]
          have Hxt := Lib.hid hxt; clear hxt
          go_wp2
          go_ret2
          exact ⟨ret_t2 rfl (bool_eq (decide_eq_false fun hm => Hxt.out (by rw [← Hx.out]; exact (Hm.out.1 hm).2)).symm), hx⟩
      · go_wp2
        go_ret2
        exact ⟨ret_t2 rfl (bool_eq (decide_eq_false fun hm => by have := (Hm.out.1 hm).1; rw [Hl.out] at this; omega).symm), hx⟩
/-- nil is answered nil; else new memory -/
def RetI (base : Nat) (xs : List Int) (w : World) (e : Ending) (w' : World) : Prop :=
  ∃ A c, e = .returned (.slice A xs.length c) ∧ w'.ownsRow base 2 1 (.slice A xs.length c) xs.length (ivals xs) ∧ Ext w w'
theorem nilqI (w : World) (A : Option Addr) (n c n' c' : Nat) : (binOp .eql 22 (.slice A n c) (.slice none n' c')).run Try.prog w = .ok (.bool A.isNone) w := Lib.run_eql_slice_nil w _ _ A n c n' c' Try.underlying22
set_option maxHeartbeats 400000 in
theorem clone_any (A : Option Addr) (n c : Nat) (xs : List Int) (w : World) (hl : xs.length = n) (hn : n ≤ 17592186044416) (hr : Rd w A (ivals xs)) :
    Calls Try.prog 28 #[.slice A n c] w (RetI w.heap.size xs w) := by
  have Hl := Lib.hid hl
  have Hr := Lib.hid hr
  have q := nilqI
  cases A with
  | none =>
    have h0 : xs = [] := by
      refine Classical.byContradiction fun h => ?_
      obtain ⟨b, off, hA, _⟩ := hr (fun e => h (by simpa [ivals] using e))
      cases hA
    subst h0
    clear hl hr
    obtain rfl : n = 0 := by have := Hl.out; simpa using this.symm
    go_enter Try.func28, Try.ntmps28
    go_wp2
    go_ret
    exact ⟨none, 0, rfl, World.ownsRow_nil _ _ _ _, Ext.refl w⟩
  | some a =>
    clear hl hr
    go_enter Try.func28, Try.ntmps28
    go_wp2_with (at_builtin; refine app_i64 _ rfl (.tmp 5) (.tmp 6) rfl w.heap.size rfl (own0I w) rfl Hl.out (Hr.out.alloc _) (by omega) (by simp) ?_; intro A' c' w1 hown hgrow _; simp only [Nat.zero_add, List.nil_append] at hown)
    go_ret
    rw [← Hl.out] at hown ⊢
    exact ⟨A', c', rfl, hown, ((Ext.refl w).alloc _).grown hgrow (by simp [Value.ownBlock])⟩
set_option maxHeartbeats 1000000 in
theorem refCheck_any (w : World) (p : Int) (A : Option Addr) (n c : Nat) (xs : List Int) (hl : xs.length = n) (hn : n ≤ 17592186044416) (hr : Rd w A (ivals xs)) :
    Calls Try.prog 20 #[.agg #[.int .i64 p, .slice A n c]] w (RetE (.int .i64 (formE p xs)) w) := by
  by_cases hp : p < 1 ∨ 64 < p ∨ p < n
  · have e : formE p xs = 3 := formE_no fun hf => by obtain ⟨h1, h2, h3, _⟩ := hf; omega
    rw [e]
    by_cases h1 : p < 1
    · clear hp
      go_enter Try.func20, Try.ntmps20
      go_wp2_with fail
      go_ret
      exact ⟨rfl, (Ext.refl w).alloc _⟩
    · by_cases h2 : 64 < p
      · clear hp
        go_enter Try.func20, Try.ntmps20
        go_wp2_with fail
        go_ret
        exact ⟨rfl, (Ext.refl w).alloc _⟩
      · have h3 : p < (n : Int) := by omega
        clear hp
        go_enter Try.func20, Try.ntmps20
        go_wp2_with fail
        go_ret
        exact ⟨rfl, (Ext.refl w).alloc _⟩
  · have h1 : ¬ p < 1 := by omega
    have h2 : ¬ 64 < p := by omega
    have h3 : ¬ p < (n : Int) := by omega
    have Hl := Lib.hid hl; have Hr := Lib.hid (hr.alloc (.cells #[.int .i64 p, .slice A n c] 24 (0, 0))); clear hl hr hp
    go_enter Try.func20, Try.ntmps20
    go_wp2_with fail
    go_loopw [24] (fun i wr => ∃ k : Nat, k ≤ n ∧ i = .int .i64 (k : Int) ∧ wr = w.alloc (.cells #[.int .i64 p, .slice A n c] 24 (0, 0)) ∧ ∀ j, j < k → okAt xs j) (fun i _ => n - (intOf i).toNat)
    case atStart => exact ⟨0, Nat.zero_le _, rfl, rfl, fun j hj => by omega⟩
    case round =>
      obtain ⟨k, hk, rfl, rfl, hok⟩ := hrel
      have Hok := Lib.hid hok; clear hok
      by_cases hlt : k < n
      · obtain ⟨b, off, hA, _, hc⟩ := Hr.out.atI (j := k) (by rw [Hl.out]; exact hlt)
        obtain ⟨x, Hx⟩ : ∃ x, Hid (xs.getD k 0 = x) := ⟨_, rfl⟩
        rw [Hx.out] at hc
        have hbadk : ∀ h : ¬ okAt xs k, formE p xs = 3 := fun h => form_no_at (k := k) (by rw [Hl.out]; exact hlt) h
        subst hA
        by_cases hs1 : x < 1
        · go_wp2_with fail
          go_ret
          exact ⟨ret_int (hbadk fun ho => by have := ho.1; rw [Hx.out] at this; omega).symm, (Ext.refl w).alloc _⟩
        by_cases hs2 : 4611686018427387903 < x
        · go_wp2_with fail
          go_ret
          exact ⟨ret_int (hbadk fun ho => by have := ho.2.1; rw [Hx.out] at this; omega).symm, (Ext.refl w).alloc _⟩
        by_cases hk0 : k = 0
        · have hk0' : ¬ ((k : Int) > 0) := by omega
          have Hk0 := Lib.hid hk0; clear hk0
          go_wp2_with fail
          go_roundw
          case rel =>
            refine ⟨k + 1, by omega, by go_num, by first | rfl | trivial, fun j hj => ?_⟩
            have : j = k := by have := Hk0.out; omega
            rw [this]
            refine ⟨by rw [Hx.out]; omega, by rw [Hx.out]; omega, fun h0 => by have := Hk0.out; omega⟩
          case measure => simp [intOf]; omega
        · obtain ⟨m, rfl⟩ : ∃ m, k = m + 1 := ⟨k - 1, by omega⟩
          have hcm : (w.alloc (.cells #[.int .i64 p, .slice (some ⟨b, off, none⟩) n c] 24 (0, 0))).cell? ⟨b, off + m, none⟩ = some (.int .i64 (xs.getD m 0)) := by
            obtain ⟨b', off', hA', _, hc'⟩ := Hr.out.atI (j := m) (by rw [Hl.out]; omega)
            injection hA' with hA'
            injection hA' with h1 h2
            subst h1 h2
            exact hc'
          obtain ⟨y, Hy⟩ : ∃ y, Hid (xs.getD m 0 = y) := ⟨_, rfl⟩
          rw [Hy.out] at hcm
          clear hk0
          have hwm : IntKind.i64.wrap (((m + 1 : Nat) : Int) - 1) = (m : Int) := by rw [IntKind.wrap_i64]; omega
          have hwm2 : IntKind.i64.wrap ((m : Int) + 1 - 1) = (m : Int) := by rw [IntKind.wrap_i64]; omega
          have hmn : m < n := by omega
          have hpos : (0 : Int) < (m : Int) + 1 := by omega
          by_cases hyx : x ≤ y
          · go_wp2_with fail
            go_ret
            exact ⟨ret_int (hbadk fun ho => by have := ho.2.2 (by omega); rw [Hx.out, Nat.add_sub_cancel, Hy.out] at this; omega).symm, (Ext.refl w).alloc _⟩
          · go_wp2_with fail
            go_roundw
            case rel =>
              refine ⟨m + 2, by omega, by go_num, by first | rfl | trivial, fun j hj => ?_⟩
              by_cases e1 : j = m + 1
              · rw [e1]
                refine ⟨by rw [Hx.out]; omega, by rw [Hx.out]; omega, fun h0 => ?_⟩
                rw [Hx.out, Nat.add_sub_cancel, Hy.out]; omega
              · exact Hok.out j (by omega)
            case measure => simp [intOf]; omega
      · go_wp2_with fail
        go_ret
        exact ⟨ret_int (formE_yes ⟨by omega, by omega, by rw [Hl.out]; omega, fun j hj => Hok.out j (by rw [Hl.out] at hj; omega)⟩).symm, (Ext.refl w).alloc _⟩
end Go.Proofs.Ytemnhnhpaaoccaa
