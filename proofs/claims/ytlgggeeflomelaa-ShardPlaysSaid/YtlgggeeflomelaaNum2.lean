/- spigotref01: Word, Fits, Held. -/
import Derived.Test.YtlgggeeflomelaaNum
namespace Go.Proofs.Ytlgggeeflomelaa
open Go.RowKit

/-- digits of a number, in memory that is not written -/
def RetD (v : Nat) (w : World) (e : Ending) (w' : World) : Prop :=
  ∃ A n c ds, e = .returned (.slice A n c) ∧ ds.length = n ∧ n ≤ c ∧ (∀ a, A = some a → a.spot = none) ∧ Rd w' A (vals .u64 ds) ∧ DigN v ds ∧ Ext w w'
theorem rd_takeN {w : World} {A : Option Addr} {xs : List Nat} (n : Nat) (h : Rd w A (vals .u64 xs)) : Rd w A (vals .u64 (xs.take n)) := by
  intro hne
  have hne' : vals .u64 xs ≠ [] := fun e => hne (by rw [vals_take, e, List.take_nil])
  obtain ⟨b, off, hA, hc⟩ := h hne'
  refine ⟨b, off, hA, fun j u hu => hc j u ?_⟩
  rw [vals_take, List.getElem?_take] at hu
  split at hu
  · exact hu
  · cases hu
theorem rword_any (v : Nat) (w : World) (hv : v / 4294967296 < 4294967296) : Calls Try.prog 89 #[.int .u64 (v : Int)] w (RetD v w) := by
  have hwr : IntKind.u64.wrap ((v : Int) / 4294967296) = (v : Int) / 4294967296 := by rw [IntKind.wrap_u64]; omega
  have Hv := Lib.hid hv
  clear hv
  go_enter Try.func89, Try.ntmps89
  go_wp2_with fail
  refine (rnorm_any _ (some ⟨w.heap.size, 0, none⟩) 2 2 [v % 4294967296, v / 4294967296] rfl (by omega) (by omega) (fun a ha => by injection ha with ha; subst ha; rfl) (by
    have := rd_new w (vals .u64 [v % 4294967296, v / 4294967296]) 122
    simpa [vals] using this)).mono ?_
  rintro e w' ⟨n, rfl, h1, h2, h3, rfl⟩
  go_wp2_with fail
  go_ret
  refine ⟨_, n, 2, [v % 4294967296, v / 4294967296].take n, rfl, by simp at h1 ⊢; omega, h1, (fun a ha => by injection ha with ha; subst ha; rfl), rd_takeN n ?_, ⟨by simp; omega, fun d hd => ?_, ?_⟩, (Ext.refl w).alloc _⟩
  · have := rd_new w (vals .u64 [v % 4294967296, v / 4294967296]) 122
    simpa [vals] using this
  · have := List.mem_of_mem_take hd
    have h9 := Hv.out
    simp at this
    omega
  · rw [h2]
    simp [numD]
    omega
theorem drop_num {ds : List Nat} (hd : ∀ d ∈ ds, d < 4294967296) (hl : ds.length ≤ 2) (k : Nat) (x : Nat) (hx : ds[k]? = some x) : numD (ds.drop k) = x + 4294967296 * numD (ds.drop (k + 1)) ∧ numD (ds.drop (k + 1)) < 4294967296 ∧ x < 4294967296 := by
  have hk := (List.getElem?_eq_some_iff.1 hx)
  obtain ⟨hk, he⟩ := hk
  refine ⟨by rw [List.drop_eq_getElem_cons hk, he]; rfl, ?_, hd x (List.mem_of_getElem? hx)⟩
  have h1 : (ds.drop (k + 1)).length ≤ 1 := by simp; omega
  have h2 : ∀ d ∈ ds.drop (k + 1), d < 4294967296 := fun d h => hd d (List.mem_of_mem_drop h)
  match hh : ds.drop (k + 1), h1 with
  | [], _ => simp [numD]
  | [a], _ =>
    have := h2 a (by rw [hh]; simp)
    simp [numD]
    omega
set_option maxHeartbeats 400000 in
theorem rfits_any (w : World) (A : Option Addr) (n c v : Nat) (ds : List Nat) (hl : ds.length = n) (hr : Rd w A (vals .u64 ds)) (hd : DigN v ds) :
    Calls Try.prog 103 #[.slice A n c] w fun e w' => e = .returned (.tuple #[.int .u64 (v : Int), .bool true]) ∧ w = w' := by
  have hn2 : n ≤ 2 := by rw [← hl]; exact hd.1
  have HL := Lib.hid hl; have HR := Lib.hid hr; have HD := Lib.hid hd
  clear hl hr hd
  go_enter Try.func103, Try.ntmps103
  go_wp2
  go_loop [4, 5] (fun x i => ∃ (k : Nat) (j : Int), k ≤ n ∧ j = (k : Int) - 1 ∧ i = .int .i64 j ∧ x = .int .u64 (numD (ds.drop k) : Int)) (fun _ i => (intOf i + 1).toNat)
  case atStart => exact ⟨n, _, Nat.le_refl _, rfl, rfl, by rw [List.drop_of_length_le (by rw [HL.out]; exact Nat.le_refl _)]; rfl⟩
  case round =>
    obtain ⟨k, j, hk, hj, rfl, rfl⟩ := hrel
    cases k with
    | zero =>
      obtain rfl : j = -1 := by omega
      clear hj
      rw [List.drop_zero, HD.out.2.2]
      have hle : (n : Int) ≤ 2 := by omega
      go_wp2
      go_ret2
      exact ⟨rfl, rfl⟩
    | succ k =>
      obtain rfl : j = (k : Int) := by omega
      clear hj
      obtain ⟨x, hx⟩ := get_of_lt (xs := ds) (j := k) (by rw [HL.out]; omega)
      obtain ⟨b, off, hA, _, hcell⟩ := HR.out.at_ hx
      obtain ⟨q1, q2, q3⟩ := drop_num HD.out.2.1 HD.out.1 k x hx
      obtain ⟨y, hy⟩ : ∃ y, numD (ds.drop (k + 1)) = y := ⟨_, rfl⟩
      have Q1 := Lib.hid q1
      rw [hy] at Q1 q2 ⊢
      have HY := Lib.hid hy
      subst hA
      clear hx q1 hy
      have hkn : k < n := by omega
      go_wp2
      go_round
      case rel => exact ⟨k, _, by omega, rfl, rfl, int_eq (by rw [Q1.out]; omega)⟩
      case measure => simp [intOf]
theorem rheld_any (w : World) (A : Option Addr) (n c v : Nat) (ds : List Nat) (hl : ds.length = n) (hr : Rd w A (vals .u64 ds)) (hd : DigN v ds) :
    Calls Try.prog 88 #[.slice A n c] w fun e w' => e = .returned (.int .i64 (min (v : Int) 4611686018427387903)) ∧ w = w' := by
  have C := Lib.hid (rfits_any w A n c v ds hl hr hd)
  clear hl hr hd
  by_cases h : (v : Int) ≤ 4611686018427387903
  · rw [show min (v : Int) 4611686018427387903 = (v : Int) by omega]
    go_enter Try.func88, Try.ntmps88
    go_wp2_with fail
    refine C.out.mono ?_
    rintro e w' ⟨rfl, rfl⟩
    go_wp2_with fail
    go_ret
    exact ⟨rfl, rfl⟩
  · rw [show min (v : Int) 4611686018427387903 = 4611686018427387903 by omega]
    go_enter Try.func88, Try.ntmps88
    go_wp2_with fail
    refine C.out.mono ?_
    rintro e w' ⟨rfl, rfl⟩
    go_wp2_with fail
    go_ret
    exact ⟨rfl, rfl⟩
end Go.Proofs.Ytlgggeeflomelaa
