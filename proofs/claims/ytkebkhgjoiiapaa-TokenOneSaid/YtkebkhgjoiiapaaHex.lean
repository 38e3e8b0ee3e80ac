/- token.Hex. -/
import Derived.Test.YtkebkhgjoiiapaaBld
import Derived.Deep.LoopGhost
namespace Go.Proofs.Ytkebkhgjoiiapaa
open Go.RowKit

/-- a character of half a byte -/
def digitN (d : Nat) : Nat := if d < 10 then 48 + d else 87 + d
def hexN (xs : List Nat) : List Nat := xs.flatMap fun x => [digitN (x / 16), digitN (x % 16)]

theorem dig (d : Nat) (h : d < (ByteArray.mk #[48, 49, 50, 51, 52, 53, 54, 55, 56, 57, 97, 98, 99, 100, 101, 102]).size) : (ByteArray.mk #[48, 49, 50, 51, 52, 53, 54, 55, 56, 57, 97, 98, 99, 100, 101, 102])[d].toNat = digitN d := by
  have h' : d < 16 := h
  have hd : d = 0 ∨ d = 1 ∨ d = 2 ∨ d = 3 ∨ d = 4 ∨ d = 5 ∨ d = 6 ∨ d = 7 ∨ d = 8 ∨ d = 9 ∨ d = 10 ∨ d = 11 ∨ d = 12 ∨ d = 13 ∨ d = 14 ∨ d = 15 := by omega
  rcases hd with rfl | rfl | rfl | rfl | rfl | rfl | rfl | rfl | rfl | rfl | rfl | rfl | rfl | rfl | rfl | rfl <;> rfl
theorem hexN_len (xs : List Nat) : (hexN xs).length = 2 * xs.length := by
  induction xs with
  | nil => rfl
  | cons x xs ih =>
    show (([digitN (x / 16), digitN (x % 16)] : List Nat) ++ hexN xs).length = _
    rw [List.length_append, ih]; simp; omega
theorem digitN_lt (d : Nat) (h : d < 16) : digitN d < 256 := by unfold digitN; split <;> omega
theorem hexN_lt (xs : List Nat) (h : ∀ x ∈ xs, x < 256) : ∀ y ∈ hexN xs, y < 256 := by
  intro y hy
  obtain ⟨x, hx, hy⟩ := List.mem_flatMap.1 hy
  have := h x hx
  simp only [List.mem_cons, List.not_mem_nil, or_false] at hy
  rcases hy with rfl | rfl <;> exact digitN_lt _ (by omega)
set_option maxHeartbeats 2000000 in
set_option maxRecDepth 100000 in
theorem hex_any (w : World) (A : Option Addr) (n c : Nat) (xs : List Nat) (hl : xs.length = n) (hb : ∀ x ∈ xs, x < 256) (hr : Rd w A (vals .u8 xs)) (hn : n ≤ 70368744177000) :
    Calls Try.prog 37 #[.slice A n c] w (RetE (.string ⟨((hexN xs).map fun x => x.toUInt8).toArray⟩) w) := by
  have Hl := Lib.hid hl; have Hr := Lib.hid hr; have Hb := Lib.hid hb; clear hl hr hb
  go_enter Try.func37, Try.ntmps37
  go_wp2_with fail
  go_loopg [8] n (fun g v8 wr => ∃ k : Nat, k ≤ n ∧ g = n - k ∧ v8 = .int .i64 (k : Int) ∧ Ext w wr ∧ IsBld w.heap.size w.heap.size (vals .u8 (hexN (xs.take k))) wr ∧ (k = 0 → wr.heap[w.heap.size]? = some (.cells #[.pointer none, .slice none 0 0] 108 (0, 0))))
  case atStart => exact ⟨0, Nat.zero_le _, rfl, rfl, (Ext.refl w).alloc _, Lib.fresh_isBuilder _ _ w, fun _ => heap_alloc_new w _⟩
  case round =>
    obtain ⟨k, hk, rfl, rfl, hx, hB, hzero⟩ := hrel
    have HB := Lib.hid hB; have Hx := Lib.hid hx; clear hB hx
    by_cases hlt : k < n
    · obtain ⟨x, hxk⟩ := get_of_lt (xs := xs) (j := k) (by rw [Hl.out]; exact hlt)
      have hx256 : x < 256 := Hb.out x (List.mem_of_getElem? hxk)
      obtain ⟨b, off, hA, hc⟩ := (Hr.out.ext Hx.out).at_ hxk
      have Hxk := Lib.hid hxk; clear hxk
      subst hA
      have hlen : (hexN (xs.take k)).length ≤ 2 * k := by rw [hexN_len, List.length_take]; omega
      have hws : w.heap.size ≤ wr.heap.size := Hx.out.size
      go_wp2_with fail
      rw [dig]
      refine (bld_write w.heap.size w.heap.size (hexN (xs.take k)) (digitN (x / 16)) wr HB.out (by omega) hws).mono ?_
      rintro e w1 ⟨rfl, hB1, hy1⟩
      have HB1 := Lib.hid hB1; clear hB1
      have hs1 : wr.heap.size ≤ w1.heap.size := hy1.size
      have hl1 : (hexN (xs.take k) ++ [digitN (x / 16)]).length ≤ 2 * k + 1 := by rw [List.length_append]; simp; omega
      go_wp2_with fail
      rw [dig]
      refine (bld_write w.heap.size w.heap.size (hexN (xs.take k) ++ [digitN (x / 16)]) (digitN (x % 16)) w1 (.inr HB1.out) (by omega) (by omega)).mono ?_
      rintro e w2 ⟨rfl, hB2, hy2⟩
      have HB2 := Lib.hid hB2; clear hB2
      go_wp2_with fail
      go_roundg (n - (k + 1))
      case measure => omega
      case rel =>
        refine ⟨k + 1, hlt, rfl, by go_num, Below.trans (Below.trans Hx.out hy1) hy2, .inr ?_, fun h => by omega⟩
        have e : hexN (xs.take (k + 1)) = hexN (xs.take k) ++ [digitN (x / 16)] ++ [digitN (x % 16)] := by
          rw [take_succ_of Hxk.out]; simp [hexN, List.flatMap_append]
        rw [e]
        exact HB2.out
    · obtain rfl : k = n := by omega
      have e1 : xs.take k = xs := List.take_of_length_le (by rw [Hl.out]; omega)
      by_cases h0 : k = 0
      · have hz := Lib.hid (hzero h0)
        go_wp2_with fail
        refine (bld_string_nil w.heap.size w.heap.size _ wr hz.out).mono ?_
        rintro e w2 ⟨rfl, hy2⟩
        go_wp2_with fail
        go_ret
        have hnil : xs = [] := List.length_eq_zero_iff.1 (by rw [Hl.out]; exact h0)
        subst hnil
        exact ⟨rfl, Below.trans Hx.out hy2⟩
      · have hB := HB.out
        rw [e1] at hB
        have hcells : Lib.byteCells ((hexN xs).map fun x => x.toUInt8) = vals .u8 (hexN xs) := by
          rw [byteCells_vals, List.map_map]
          congr 1
          have : ∀ y ∈ hexN xs, (UInt8.toNat ∘ fun x => x.toUInt8) y = y := fun y hy => by
            simp only [Function.comp, Nat.toUInt8, UInt8.toNat_ofNat']
            exact Nat.mod_eq_of_lt (hexN_lt xs Hb.out y hy)
          rw [List.map_congr_left this, List.map_id']
        rw [← hcells] at hB
        have hne : ((hexN xs).map fun x => x.toUInt8) ≠ [] := by
          intro e
          have h1 := congrArg List.length e
          rw [List.length_map, hexN_len, Hl.out] at h1
          simp at h1; omega
        have C := Lib.hid (bld_string w.heap.size w.heap.size _ wr hB hne)
        clear hB hcells hne e1 hzero
        go_wp2_with fail
        refine C.out.mono ?_
        rintro e w2 ⟨rfl, hy2⟩
        go_wp2_with fail
        go_ret
        exact ⟨rfl, Below.trans Hx.out hy2⟩
end Go.Proofs.Ytkebkhgjoiiapaa
