/- wire.reader: must, take, number. -/
import Derived.Test.YthkdjjfnmlemdaaWirePlain
import Derived.Test.YthkdjjfnmlemdaaWord
import Derived.Test.YthkdjjfnmlemdaaFrB
import Derived.Test.YthkdjjfnmlemdaaBase3
import Derived.Recover
namespace Go.Proofs.Ythkdjjfnmlemdaa
open Go.RowKit

/-- what a reader gives up with -/
abbrev Wrong : Ending := .panicked [{ v := .iface 153 (.agg #[]), recovered := false }]
theorem must_ok (w : World) (r : Value) : Calls Try.prog 82 #[r, .bool true] w fun e w' => e = .returned (.tuple #[]) ∧ w = w' := by
  go_enter Try.func82, Try.ntmps82
  go_wp2_with fail
  go_end0
  exact ⟨rfl, rfl⟩
theorem must_no (w : World) (r : Value) : Calls Try.prog 82 #[r, .bool false] w fun e w' => e = Wrong ∧ w = w' := by
  go_enter Try.func82, Try.ntmps82
  go_wp2_with fail
  exact ⟨rfl, rfl, rfl⟩
/-- a reader in memory -/
def IsWr (w : World) (r : Nat) (A : Option Addr) (n c : Nat) : Prop := w.heap[r]? = some (.cells #[.slice A n c] 155 (0, 0))
set_option maxHeartbeats 1000000 in
theorem wtake_few (w : World) (r : Nat) (k : Int) (A : Option Addr) (n c : Nat) (h : IsWr w r A n c) (hk : (n : Int) < k) :
    Calls Try.prog 81 #[.pointer (some ⟨r, 0, none⟩), .int .i64 k] w fun e w' => e = Wrong ∧ w = w' := by
  have h0 : w.cell? ⟨r, 0, none⟩ = some (.slice A n c) := blk_cell h 0
  have hd : decide (k ≤ (n : Int)) = false := by simp; omega
  have H := Lib.hid h; clear h
  go_enter Try.func81, Try.ntmps81
  go_wp2_with fail
  refine (must_no _ _).mono ?_
  rintro e w' ⟨rfl, rfl⟩
  exact ⟨rfl, rfl, rfl⟩
set_option maxHeartbeats 1000000 in
theorem wtake_some (w : World) (r k : Nat) (A : Option Addr) (n c m d : Nat) (h : IsWr w r A n c) (hk : k ≤ n) (hnc : n ≤ c) (A' : Option Addr)
    (hsl : ∀ u : World, (Instr.slice 28 (.slice A n c) (some (.int .i64 (k : Int))) none none).run Try.prog u = .ok (.slice A' m d) u) :
    Calls Try.prog 81 #[.pointer (some ⟨r, 0, none⟩), .int .i64 (k : Int)] w fun e w' => e = .returned (.slice A k c) ∧ w.setCell ⟨r, 0, none⟩ (.slice A' m d) = w' := by
  have h0 : w.cell? ⟨r, 0, none⟩ = some (.slice A n c) := blk_cell h 0
  have hf := blk_frozen h 0
  have hd : decide ((k : Int) ≤ (n : Int)) = true := by simp; omega
  have H := Lib.hid h; clear h
  go_enter Try.func81, Try.ntmps81
  go_wp2_with fail
  refine (must_ok _ _).mono ?_
  rintro e w' ⟨rfl, rfl⟩
  go_wp2_with fail
  go_ret
  exact ⟨rfl, rfl⟩

/-- a reader with the bytes that are still to come -/
def IsWs (w : World) (r S : Nat) (zs : List Nat) : Prop := ∃ A c, IsWr w r A zs.length c ∧ zs.length ≤ c ∧ Rd w A (vals .u8 zs) ∧ (zs ≠ [] → ∀ a, A = some a → a.block ≠ r ∧ a.block < S)
theorem IsWs.ext {w w' : World} {r S : Nat} {zs : List Nat} (h : IsWs w r S zs) (hx : Ext w w') : IsWs w' r S zs := by
  obtain ⟨A, c, h1, h2, h3, h4⟩ := h
  exact ⟨A, c, blk_ext h1 hx, h2, h3.ext hx, h4⟩
theorem IsWs.grown {w w' : World} {r S : Nat} {zs : List Nat} (h : IsWs w r S zs) {row : Option Nat} (hg : w.grownBy w' row) (h1 : ∀ k, row = some k → k ≠ r ∧ S ≤ k) : IsWs w' r S zs := by
  obtain ⟨A, c, k1, k2, k3, k4⟩ := h
  refine ⟨A, c, (hg.block r (blk_lt k1) (fun e => (h1 r e.symm).1 rfl)).trans k1, k2, ?_, k4⟩
  by_cases hz : zs = []
  · subst hz; exact Rd.nil _ _
  · exact k3.grown hg (fun a ha e => by have := (h1 _ e).2; have := (k4 hz a ha).2; omega)
theorem IsWs.lt {w : World} {r S : Nat} {zs : List Nat} (h : IsWs w r S zs) : r < w.heap.size := by
  obtain ⟨A, c, h1, _⟩ := h
  exact blk_lt h1
/-- what take leaves -/
def TakeR (zs : List Nat) (k : Nat) (w : World) (r S : Nat) (e : Ending) (w' : World) : Prop :=
  ∃ A c, e = .returned (.slice A k c) ∧ k ≤ c ∧ Rd w' A (vals .u8 (zs.take k)) ∧ IsWs w' r S (zs.drop k) ∧ w.grownBy w' (some r) ∧ w.heap.size = w'.heap.size ∧ (zs ≠ [] → ∀ a, A = some a → a.block ≠ r ∧ a.block < S)
theorem wtake_ok (w : World) (r S k : Nat) (zs : List Nat) (h : IsWs w r S zs) (hk : k ≤ zs.length) :
    Calls Try.prog 81 #[.pointer (some ⟨r, 0, none⟩), .int .i64 (k : Int)] w (TakeR zs k w r S) := by
  obtain ⟨A, c, h1, h2, h3, h4⟩ := h
  obtain ⟨A', hsl, hrd, hA'⟩ := slice_from_any Try.underlying28 size_u8 (A := A) (n := zs.length) (c := c) (m := zs.length - k) (d := c - k) k (ki := (k : Int)) rfl h2 (by omega) (by omega)
  refine (wtake_some w r k A zs.length c (zs.length - k) (c - k) h1 hk h2 A' hsl).mono ?_
  rintro e w' ⟨rfl, rfl⟩
  have hg := grown_set w r 0 (.slice A' (zs.length - k) (c - k))
  have hr : Rd (w.setCell ⟨r, 0, none⟩ (.slice A' (zs.length - k) (c - k))) A (vals .u8 zs) := by
    by_cases hz : zs = []
    · subst hz; exact Rd.nil _ _
    · exact h3.grown hg (fun a ha e => (h4 hz a ha).1 (by injection e with e; exact e.symm))
  refine ⟨A, c, rfl, by omega, ?_, ⟨A', c - k, ?_, ?_, ?_, ?_⟩, hg, by simp, h4⟩
  · exact rd_take (ys := zs.drop k) (by rw [List.take_append_drop]; exact hr)
  · rw [List.length_drop]
    exact blk_set h1 0 _
  · rw [List.length_drop]; omega
  · rw [vals_drop]; exact hrd _ _ (vals_len _ _) hr
  · intro hz a ha
    have hz' : zs ≠ [] := by rintro rfl; simp at hz
    obtain ⟨b, off, hA, _⟩ := h3 (by simpa [vals] using hz')
    obtain ⟨a', ha', hb⟩ := hA' _ hA
    rw [ha] at ha'
    injection ha' with ha'
    subst ha'
    rw [hb]
    exact h4 hz' _ hA
theorem wtake_no (w : World) (r S : Nat) (k : Nat) (zs : List Nat) (h : IsWs w r S zs) (hk : zs.length < k) :
    Calls Try.prog 81 #[.pointer (some ⟨r, 0, none⟩), .int .i64 (k : Int)] w fun e w' => e = Wrong ∧ w = w' := by
  obtain ⟨A, c, h1, h2, h3, h4⟩ := h
  exact wtake_few w r k A zs.length c h1 (by omega)

/-- what number leaves -/
def NumR (zs : List Nat) (w : World) (r S : Nat) (e : Ending) (w' : World) : Prop :=
  w.grownBy w' (some r) ∧ w.heap.size = w'.heap.size ∧ ((8 ≤ zs.length ∧ numB (zs.take 8) ≤ 4611686018427387903 ∧ e = .returned (.int .i64 (numB (zs.take 8) : Int)) ∧ IsWs w' r S (zs.drop 8)) ∨ (¬ (8 ≤ zs.length ∧ numB (zs.take 8) ≤ 4611686018427387903) ∧ e = Wrong))
set_option maxHeartbeats 2000000 in
theorem wnumber_any (w : World) (r S : Nat) (zs : List Nat) (hb : ∀ x ∈ zs, x < 256) (h : IsWs w r S zs) :
    Calls Try.prog 83 #[.pointer (some ⟨r, 0, none⟩)] w (NumR zs w r S) := by
  by_cases h8 : 8 ≤ zs.length
  · have C := Lib.hid (wtake_ok w r S 8 zs h h8)
    have hl8 : (zs.take 8).length = 8 := by rw [List.length_take]; omega
    have hb8 : ∀ x ∈ zs.take 8, x < 256 := fun x hx => hb x (List.mem_of_mem_take hx)
    have Hl8 := Lib.hid hl8; have Hb8 := Lib.hid hb8; clear hl8 hb8
    unfold NumR
    obtain ⟨ys, hys⟩ : ∃ ys, zs.take 8 = ys := ⟨_, rfl⟩
    rw [hys] at Hl8 Hb8 ⊢
    have Hys := Lib.hid hys; clear hys
    go_enter Try.func83, Try.ntmps83
    go_wp2_with fail
    refine C.out.mono ?_
    rintro e w1 ⟨A, c, rfl, hc, hr, hS, hg, hz, _⟩
    rw [Hys.out] at hr
    have HR := Lib.hid hr; have HS := Lib.hid hS; have HG := Lib.hid hg; have hsz : w.heap.size = w1.heap.size := hz; clear hr hS hg C hz
    go_wp2_with fail
    go_loop [3, 9] (fun x i => ∃ k : Nat, k ≤ 8 ∧ i = .int .i64 k ∧ x = .int .u64 ((numB (ys.take k) : Nat) : Int)) (fun _ i => 8 - (intOf i).toNat)
    case atStart => exact ⟨0, Nat.zero_le _, rfl, by rw [List.take_zero, numB_nil]; rfl⟩
    case round =>
      obtain ⟨k, hk, rfl, rfl⟩ := hrel
      by_cases hlt : k < 8
      · obtain ⟨x, hx⟩ := get_of_lt (xs := ys) (j := k) (by rw [Hl8.out]; exact hlt)
        have hx256 : x < 256 := Hb8.out x (List.mem_of_getElem? hx)
        obtain ⟨b, off, hA, hc⟩ := HR.out.at_ hx
        subst hA
        have hnl := numB_lt (ys.take k) (fun y hy => Hb8.out y (List.mem_of_mem_take hy))
        have hle : numB (ys.take k) < 72057594037927936 := by
          refine Nat.lt_of_lt_of_le hnl ?_
          rw [show (72057594037927936 : Nat) = 256 ^ 7 by rfl]
          exact Nat.pow_le_pow_right (by omega) (by rw [List.length_take, Hl8.out]; omega)
        have Hx := Lib.hid hx; clear hx hnl
        go_wp2
        go_round
        case rel => exact ⟨k + 1, by omega, by go_num, by rw [take_succ_of Hx.out, numB_snoc, or_byte64 _ _ hle hx256]⟩
        case measure => simp [intOf]; omega
      · obtain rfl : k = 8 := by omega
        have e1 : ys.take 8 = ys := List.take_of_length_le (by rw [Hl8.out]; omega)
        rw [e1]
        have hlt := numB_lt_of ys Hb8.out (by rw [Hl8.out]; omega)
        clear e1
        obtain ⟨s, hsE⟩ : ∃ s, numB ys = s := ⟨_, rfl⟩
        rw [hsE] at hlt ⊢
        have HsE := Lib.hid hsE; clear hsE
        by_cases hs : s ≤ 4611686018427387903
        · have hd : decide ((s : Int) ≤ 4611686018427387903) = true := by simp; omega
          go_wp2_with fail
          refine (must_ok _ _).mono ?_
          rintro e w' ⟨rfl, rfl⟩
          have w1s : IntKind.i64.wrap (s : Int) = (s : Int) := by rw [IntKind.wrap_i64]; omega
          go_wp2_with fail
          go_ret
          exact ⟨HG.out, hsz, .inl ⟨h8, by rw [HsE.out]; exact hs, by rw [HsE.out]; rfl, HS.out⟩⟩
        · have hd : decide ((s : Int) ≤ 4611686018427387903) = false := by simp; omega
          go_wp2_with fail
          refine (must_no _ _).mono ?_
          rintro e w' ⟨rfl, rfl⟩
          exact ⟨rfl, HG.out, hsz, .inr ⟨fun hh => hs (by have := hh.2; rwa [HsE.out] at this), rfl⟩⟩
  · go_enter Try.func83, Try.ntmps83
    go_wp2_with fail
    refine (wtake_no w r S 8 zs h (by omega)).mono ?_
    rintro e w' ⟨rfl, rfl⟩
    exact ⟨rfl, World.grownBy.refl _ _, rfl, .inr ⟨fun hh => h8 hh.1, rfl⟩⟩
end Go.Proofs.Ythkdjjfnmlemdaa
