/- hash.Ident, hash.Parts and the document's. -/
import Derived.Test.YtlfccmipfijjbaaBytes
import Derived.Deep.RegionWith
namespace Go.Proofs.Ytlfccmipfijjbaa
open Go.RowKit

/-- a list of bytes in new memory, and an error's number -/
def RetBE (xs : List Nat) (er : Int) (w : World) (e : Ending) (w' : World) : Prop :=
  ∃ A c, e = .returned (.tuple #[.slice A xs.length c, .int .i64 er]) ∧ w'.ownsRow w.heap.size 5 1 (.slice A xs.length c) xs.length (vals .u8 xs) ∧ Ext w w'
theorem retBE_of {n c : Nat} {xs : List Nat} {er : Int} (hl : xs.length = n) {w w' : World} {A : Option Addr} (ho : w'.ownsRow w.heap.size 5 1 (.slice A n c) n (vals .u8 xs)) (hb : Ext w w') :
    RetBE xs er w (.returned (.tuple #[.slice A n c, .int .i64 er])) w' := by
  subst hl
  exact ⟨A, c, rfl, ho, hb⟩
theorem own1 (w : World) (x : Nat) : (w.alloc (.cells #[.int .u8 (x : Int)] 5)).ownsRow w.heap.size 5 1 (.slice (some ⟨w.heap.size, 0, none⟩) 1 1) 1 (vals .u8 [x]) := own_made w [.int .u8 (x : Int)] 5 1 1 rfl (by unfold maxLen; omega) (Nat.le_refl _)

set_option maxHeartbeats 400000 in
theorem ident_ok (p : Nat) (A : Option Addr) (n c : Nat) (xs : List Nat) (w : World) (hp : p < 32) (hl : xs.length = n) (hn : n ≤ 255) (hr : Rd w A (vals .u8 xs)) :
    Calls Try.prog 20 #[.int .i64 (p : Int), .slice A n c] w (RetBE (p :: xs) 0 w) := by
  have Hl := Lib.hid hl; clear hl
  have Hr := Lib.hid hr; clear hr
  go_enter Try.func20, Try.ntmps20
  go_wp2_with (at_builtin; refine app_u8 _ rfl (.tmp 19) (.tmp 20) rfl w.heap.size rfl (own1 w p) rfl Hl.out (Hr.out.alloc _) (by omega) (by simp) ?_; intro A' c' w1 hown hgrow _)
  go_ret2
  exact retBE_of (by rw [List.length_cons, Hl.out, Nat.add_comm]) hown (((Ext.refl w).alloc _).grown hgrow (by simp [Value.ownBlock]))
theorem ident_arg (p : Int) (A : Option Addr) (n c : Nat) (w : World) (hp : p < 0 ∨ 32 ≤ p) :
    Calls Try.prog 20 #[.int .i64 p, .slice A n c] w fun e w' => e = .returned (.tuple #[.slice none 0 0, .int .i64 1]) ∧ w = w' := by
  rcases hp with h | h
  · go_enter Try.func20, Try.ntmps20
    go_wp2
    go_ret2
    exact ⟨rfl, rfl⟩
  · have h' : ¬ p < 0 := by omega
    go_enter Try.func20, Try.ntmps20
    go_wp2
    go_ret2
    exact ⟨rfl, rfl⟩
theorem ident_long (p : Int) (A : Option Addr) (n c : Nat) (w : World) (hp : 0 ≤ p) (hp' : p < 32) (hn : 255 < n) :
    Calls Try.prog 20 #[.int .i64 p, .slice A n c] w fun e w' => e = .returned (.tuple #[.slice none 0 0, .int .i64 2]) ∧ w = w' := by
  go_enter Try.func20, Try.ntmps20
  go_wp2
  go_ret2
  exact ⟨rfl, rfl⟩

set_option maxHeartbeats 400000 in
theorem refIdent_any (p : Nat) (A : Option Addr) (n c : Nat) (xs : List Nat) (w : World) (hp : p < 32) (hl : xs.length = n) (hn : n ≤ 255) (hb : ∀ x ∈ xs, x < 256) (hr : Rd w A (vals .u8 xs)) :
    Calls Try.prog 29 #[.int .i64 (p : Int), .slice A n c] w (RetB (p :: xs) w) := by
  have Hl := Lib.hid hl; clear hl
  have Hr := Lib.hid hr; clear hr
  have Hb := Lib.hid hb; clear hb
  go_enter Try.func29, Try.ntmps29
  go_wp2
  go_loopw [5, 13] (fun v i wr => ∃ k A' c', k ≤ n ∧ i = .int .i64 ((k : Nat) : Int) ∧ v = .slice A' (k + 1) c' ∧ wr.ownsRow w.heap.size 5 1 (.slice A' (k + 1) c') (k + 1) (vals .u8 (p :: xs.take k)) ∧ Ext w wr) (fun _ i _ => n - (intOf i).toNat)
  case atStart => exact ⟨0, _, _, Nat.zero_le _, rfl, rfl, own1 w p, (Ext.refl w).alloc _⟩
  case round =>
    obtain ⟨k, A', c', hk, rfl, rfl, hown, hext⟩ := hrel
    by_cases hlt : k < n
    · obtain ⟨x, hx⟩ := get_of_lt (xs := xs) (j := k) (by rw [Hl.out]; exact hlt)
      have hx256 : x < 256 := Hb.out x (List.mem_of_getElem? hx)
      obtain ⟨b, off, hA, _, hc⟩ := (Hr.out.ext hext).at_ hx
      have Hx := Lib.hid hx; clear hx
      subst hA
      go_wp2_with (at_builtin; refine app_u8 _ rfl (.tmp 17) (.tmp 19) rfl w.heap.size rfl (hown.alloc _) rfl (m := 1) (news := [x]) rfl (rd_new _ _ _) (by omega) (by have := hext.size; simp; omega) ?_; intro A1 c1 w1 hown1 hgrow1 _)
      go_roundw
      case rel => exact ⟨k + 1, A1, c1, by omega, by go_num, rfl, by rw [take_succ_of Hx.out]; exact hown1, (hext.alloc _).grown hgrow1 (own_ge hown)⟩
      case measure => simp [intOf]; omega
    · go_wp2
      go_ret
      have e : k = n := by omega
      subst e
      exact retB_of (by rw [List.length_cons, Hl.out]) (by rw [List.take_of_length_le (by rw [Hl.out]; omega)] at hown; exact hown) hext

theorem refDocIdent_ok (p : Nat) (A : Option Addr) (n c : Nat) (xs : List Nat) (w : World) (hp : p < 32) (hl : xs.length = n) (hn : n ≤ 255) (hb : ∀ x ∈ xs, x < 256) (hr : Rd w A (vals .u8 xs)) :
    Calls Try.prog 22 #[.int .i64 (p : Int), .slice A n c] w (RetBE (p :: xs) 0 w) := by
  have c1 := Lib.hid (refIdent_any p A n c xs w hp hl hn hb hr)
  clear hl hr hb
  go_enter Try.func22, Try.ntmps22
  go_wp2_with fail
  refine c1.out.mono ?_
  rintro e w' ⟨A', c', rfl, hown, hext⟩
  go_wp2
  go_ret2
  exact ⟨A', c', rfl, hown, hext⟩
theorem refDocIdent_arg (p : Int) (A : Option Addr) (n c : Nat) (w : World) (hp : p < 0 ∨ 32 ≤ p) :
    Calls Try.prog 22 #[.int .i64 p, .slice A n c] w fun e w' => e = .returned (.tuple #[.slice none 0 0, .int .i64 1]) ∧ w = w' := by
  rcases hp with h | h
  · go_enter Try.func22, Try.ntmps22
    go_wp2
    go_ret2
    exact ⟨rfl, rfl⟩
  · have h' : ¬ p < 0 := by omega
    go_enter Try.func22, Try.ntmps22
    go_wp2
    go_ret2
    exact ⟨rfl, rfl⟩
theorem refDocIdent_long (p : Int) (A : Option Addr) (n c : Nat) (w : World) (hp : 0 ≤ p) (hp' : p < 32) (hn : 255 < n) :
    Calls Try.prog 22 #[.int .i64 p, .slice A n c] w fun e w' => e = .returned (.tuple #[.slice none 0 0, .int .i64 2]) ∧ w = w' := by
  go_enter Try.func22, Try.ntmps22
  go_wp2
  go_ret2
  exact ⟨rfl, rfl⟩

/-- a policy, a key in new memory (nil let in), and an error's number -/
def RetParts (p : Int) (xs : List Nat) (er : Int) (w : World) (e : Ending) (w' : World) : Prop :=
  ∃ A c, e = .returned (.tuple #[.int .i64 p, .slice A xs.length c, .int .i64 er]) ∧ w'.ownsRow w.heap.size 5 1 (.slice A xs.length c) xs.length (vals .u8 xs) ∧ Ext w w'
theorem parts_of {n c : Nat} {p : Int} {xs : List Nat} {er : Int} (hl : xs.length = n) {w w' : World} {A : Option Addr} (ho : w'.ownsRow w.drew.heap.size 5 1 (.slice A n c) n (vals .u8 xs)) (hb : Ext w.drew w') :
    RetParts p xs er w (.returned (.tuple #[.int .i64 p, .slice A n c, .int .i64 er])) w' := by
  subst hl
  exact ⟨A, c, rfl, ho, ⟨hb.os, hb.tape, hb.output, hb.size, hb.block⟩⟩
set_option maxHeartbeats 1000000 in
theorem parts_ok (A : Option Addr) (n c p : Nat) (xs : List Nat) (w : World) (hp : p < 32) (hl : xs.length + 1 = n) (hnc : n ≤ c) (hn : n ≤ 256) (hr : Rd w A (vals .u8 (p :: xs))) :
    Calls Try.prog 23 #[.slice A n c] w (RetParts p xs 0 w) := by
  obtain ⟨b, off, hA, hc⟩ := hr (by simp [vals])
  subst hA
  have hc0 : w.cell? ⟨b, off, none⟩ = some (.int .u8 (p : Int)) := hc 0 _ rfl
  have hblk := World.block_lt_of_cell? w _ hc0
  have hn1 : 1 ≤ n := by omega
  have hne : ((n : Int) == 0) = false := by rw [beq_eq_false_iff_ne]; omega
  by_cases h1 : c = 1
  · subst h1
    have hx : xs = [] := List.eq_nil_of_length_eq_zero (by omega)
    subst hx
    have hn' : n = 1 := by omega
    subst hn'
    have c1 := Lib.hid (clone_some ⟨b, off, none⟩ 0 0 [] w.drew rfl (by omega) (Rd.nil _ _))
    clear hr hc hl
    go_enter Try.func23, Try.ntmps23
    go_wp2
    have hwp := IntWalk.i64_in (p : Int) (by omega)
    go_region_with (go_at_call 30; refine c1.out.mono ?_; rintro e w1 ⟨A1, c2, rfl, hown, hext⟩; have hcw : w1.cell? ⟨b, off, none⟩ = some (.int .u8 (p : Int)) := (hext.cell (p := ⟨b, off, none⟩) hblk).trans hc0)
    all_goals
      go_wp2
      go_ret3
      exact parts_of rfl (by assumption) (by assumption)
  · have hd : Rd w (some ⟨b, off + 1, none⟩) (vals .u8 xs) := fun _ => ⟨b, off + 1, rfl, fun j u hu => by rw [show off + 1 + j = off + (j + 1) by omega]; exact hc (j + 1) u (by simpa [vals] using hu)⟩
    obtain ⟨m, hm⟩ : ∃ m, n = m + 1 := ⟨n - 1, by omega⟩
    obtain ⟨d, hd1⟩ : ∃ d, c = d + 1 := ⟨c - 1, by omega⟩
    have hl' : xs.length = m := by omega
    have hsl : ∀ u : World, (Instr.slice 23 (.slice (some ⟨b, off, none⟩) n c) (some (.int .i64 1)) none none).run Try.prog u = .ok (.slice (some ⟨b, off + 1, none⟩) m d) u := slice_from Try.underlying23 size_u8 1 (by omega) (by omega) (by omega) (by omega)
    have Hm := Lib.hid hm; have Hd := Lib.hid hd1; clear hm hd1
    have c1 := Lib.hid (clone_some ⟨b, off + 1, none⟩ m d xs w.drew hl' (by omega) hd)
    have Hl := Lib.hid hl'
    clear hr hc hl hd hl'
    go_enter Try.func23, Try.ntmps23
    go_wp2
    have hwp := IntWalk.i64_in (p : Int) (by omega)
    go_region_with (go_at_call 30; refine c1.out.mono ?_; rintro e w1 ⟨A1, c2, rfl, hown, hext⟩; have hcw : w1.cell? ⟨b, off, none⟩ = some (.int .u8 (p : Int)) := (hext.cell (p := ⟨b, off, none⟩) hblk).trans hc0)
    all_goals
      go_wp2
      go_ret3
      exact parts_of rfl (by assumption) (by assumption)
set_option maxHeartbeats 1000000 in
theorem refParts_ok (A : Option Addr) (n c p : Nat) (xs : List Nat) (w : World) (hp : p < 32) (hl : xs.length + 1 = n) (hnc : n ≤ c) (hn : n ≤ 256) (hr : Rd w A (vals .u8 (p :: xs))) :
    Calls Try.prog 24 #[.slice A n c] w (RetParts p xs 0 w) := by
  obtain ⟨b, off, hA, hc⟩ := hr (by simp [vals])
  subst hA
  have hc0 : w.cell? ⟨b, off, none⟩ = some (.int .u8 (p : Int)) := hc 0 _ rfl
  have hblk := World.block_lt_of_cell? w _ hc0
  have hn1 : 1 ≤ n := by omega
  have hne : ((n : Int) == 0) = false := by rw [beq_eq_false_iff_ne]; omega
  by_cases h1 : c = 1
  · subst h1
    have hx : xs = [] := List.eq_nil_of_length_eq_zero (by omega)
    subst hx
    have hn' : n = 1 := by omega
    subst hn'
    have c1 := Lib.hid (twin_any (some ⟨b, off, none⟩) 0 0 [] w.drew rfl (by omega) (Rd.nil _ _))
    clear hr hc hl
    go_enter Try.func24, Try.ntmps24
    go_wp2
    have hwp := IntWalk.i64_in (p : Int) (by omega)
    go_region_with (go_at_call 21; refine c1.out.mono ?_; rintro e w1 ⟨A1, c2, rfl, hown, hext⟩; have hcw : w1.cell? ⟨b, off, none⟩ = some (.int .u8 (p : Int)) := (hext.cell (p := ⟨b, off, none⟩) hblk).trans hc0)
    all_goals
      go_wp2
      go_ret3
      exact parts_of rfl (by assumption) (by assumption)
  · have hd : Rd w (some ⟨b, off + 1, none⟩) (vals .u8 xs) := fun _ => ⟨b, off + 1, rfl, fun j u hu => by rw [show off + 1 + j = off + (j + 1) by omega]; exact hc (j + 1) u (by simpa [vals] using hu)⟩
    obtain ⟨m, hm⟩ : ∃ m, n = m + 1 := ⟨n - 1, by omega⟩
    obtain ⟨d, hd1⟩ : ∃ d, c = d + 1 := ⟨c - 1, by omega⟩
    have hl' : xs.length = m := by omega
    have hsl : ∀ u : World, (Instr.slice 23 (.slice (some ⟨b, off, none⟩) n c) (some (.int .i64 1)) none none).run Try.prog u = .ok (.slice (some ⟨b, off + 1, none⟩) m d) u := slice_from Try.underlying23 size_u8 1 (by omega) (by omega) (by omega) (by omega)
    have Hm := Lib.hid hm; have Hd := Lib.hid hd1; clear hm hd1
    have c1 := Lib.hid (twin_any (some ⟨b, off + 1, none⟩) m d xs w.drew hl' (by omega) hd)
    have Hl := Lib.hid hl'
    clear hr hc hl hd hl'
    go_enter Try.func24, Try.ntmps24
    go_wp2
    have hwp := IntWalk.i64_in (p : Int) (by omega)
    go_region_with (go_at_call 21; refine c1.out.mono ?_; rintro e w1 ⟨A1, c2, rfl, hown, hext⟩; have hcw : w1.cell? ⟨b, off, none⟩ = some (.int .u8 (p : Int)) := (hext.cell (p := ⟨b, off, none⟩) hblk).trans hc0)
    all_goals
      go_wp2
      go_ret3
      exact parts_of rfl (by assumption) (by assumption)

theorem parts_none (A : Option Addr) (n c : Nat) (w : World) (hn : n = 0 ∨ 256 < n) :
    Calls Try.prog 23 #[.slice A n c] w fun e w' => e = .returned (.tuple #[.int .i64 0, .slice none 0 0, .int .i64 3]) ∧ w = w' := by
  rcases hn with rfl | h
  · go_enter Try.func23, Try.ntmps23
    go_wp2
    go_ret3
    exact ⟨rfl, rfl⟩
  · have hne : ((n : Int) == 0) = false := by rw [beq_eq_false_iff_ne]; omega
    go_enter Try.func23, Try.ntmps23
    go_wp2
    go_ret3
    exact ⟨rfl, rfl⟩
theorem parts_policy (A : Option Addr) (n c p : Nat) (xs : List Nat) (w : World) (hp : 32 ≤ p) (hp' : p < 256) (hl : xs.length + 1 = n) (hn : n ≤ 256) (hr : Rd w A (vals .u8 (p :: xs))) :
    Calls Try.prog 23 #[.slice A n c] w fun e w' => e = .returned (.tuple #[.int .i64 0, .slice none 0 0, .int .i64 3]) ∧ w = w' := by
  obtain ⟨b, off, hA, hc⟩ := hr (by simp [vals])
  subst hA
  have hc0 : w.cell? ⟨b, off, none⟩ = some (.int .u8 (p : Int)) := hc 0 _ rfl
  have hn1 : 1 ≤ n := by omega
  have hne : ((n : Int) == 0) = false := by rw [beq_eq_false_iff_ne]; omega
  clear hr hc hl
  go_enter Try.func23, Try.ntmps23
  go_wp2
  go_ret3
  exact ⟨rfl, rfl⟩

theorem refParts_none (A : Option Addr) (n c : Nat) (w : World) (hn : n = 0 ∨ 256 < n) :
    Calls Try.prog 24 #[.slice A n c] w fun e w' => e = .returned (.tuple #[.int .i64 0, .slice none 0 0, .int .i64 3]) ∧ w = w' := by
  rcases hn with rfl | h
  · go_enter Try.func24, Try.ntmps24
    go_wp2
    go_ret3
    exact ⟨rfl, rfl⟩
  · have hne : ((n : Int) == 0) = false := by rw [beq_eq_false_iff_ne]; omega
    go_enter Try.func24, Try.ntmps24
    go_wp2
    go_ret3
    exact ⟨rfl, rfl⟩
theorem refParts_policy (A : Option Addr) (n c p : Nat) (xs : List Nat) (w : World) (hp : 32 ≤ p) (hp' : p < 256) (hl : xs.length + 1 = n) (hn : n ≤ 256) (hr : Rd w A (vals .u8 (p :: xs))) :
    Calls Try.prog 24 #[.slice A n c] w fun e w' => e = .returned (.tuple #[.int .i64 0, .slice none 0 0, .int .i64 3]) ∧ w = w' := by
  obtain ⟨b, off, hA, hc⟩ := hr (by simp [vals])
  subst hA
  have hc0 : w.cell? ⟨b, off, none⟩ = some (.int .u8 (p : Int)) := hc 0 _ rfl
  have hn1 : 1 ≤ n := by omega
  have hne : ((n : Int) == 0) = false := by rw [beq_eq_false_iff_ne]; omega
  clear hr hc hl
  go_enter Try.func24, Try.ntmps24
  go_wp2
  go_ret3
  exact ⟨rfl, rfl⟩
end Go.Proofs.Ytlfccmipfijjbaa
