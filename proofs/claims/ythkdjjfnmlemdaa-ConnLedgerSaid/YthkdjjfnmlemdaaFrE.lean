/- frame: nil and closed readers, End, Waiting, New, Encode; the document's Same. -/
import Derived.Test.YthkdjjfnmlemdaaRet
import Derived.Test.YthkdjjfnmlemdaaFrD
namespace Go.Proofs.Ythkdjjfnmlemdaa
open Go.RowKit

theorem feed_nil (w : World) (A : Option Addr) (n c : Nat) :
    Calls Try.prog 23 #[.pointer none, .slice A n c] w fun e w' => e = .returned (.tuple #[.slice none 0 0, .int .i64 7]) ∧ w = w' := by
  go_enter Try.func23, Try.ntmps23
  go_wp2_with fail
  go_ret2
  exact ⟨rfl, rfl⟩
theorem feed_closed (w : World) (r : Nat) (S : Nat → Prop) (ws : List Nat) (A : Option Addr) (n c : Nat) (h : IsRdr w r ws true S) :
    Calls Try.prog 23 #[.pointer (some ⟨r, 0, none⟩), .slice A n c] w fun e w' => e = .returned (.tuple #[.slice none 0 0, .int .i64 13]) ∧ w = w' := by
  obtain ⟨A0, n0, c0, hblk, _⟩ := h
  have h1 : w.cell? ⟨r, 1, none⟩ = some (.bool true) := blk_cell hblk 1
  clear hblk
  go_enter Try.func23, Try.ntmps23
  go_wp2_with fail
  go_ret2
  exact ⟨rfl, rfl⟩
theorem end_nil (w : World) :
    Calls Try.prog 21 #[.pointer none] w fun e w' => e = .returned (.tuple #[.int .i64 0, .int .i64 7]) ∧ w = w' := by
  go_enter Try.func21, Try.ntmps21
  go_wp2_with fail
  go_ret2
  exact ⟨rfl, rfl⟩
theorem end_closed (w : World) (r : Nat) (S : Nat → Prop) (ws : List Nat) (h : IsRdr w r ws true S) :
    Calls Try.prog 21 #[.pointer (some ⟨r, 0, none⟩)] w fun e w' => e = .returned (.tuple #[.int .i64 0, .int .i64 13]) ∧ w = w' := by
  obtain ⟨A0, n0, c0, hblk, _⟩ := h
  have h1 : w.cell? ⟨r, 1, none⟩ = some (.bool true) := blk_cell hblk 1
  clear hblk
  go_enter Try.func21, Try.ntmps21
  go_wp2_with fail
  go_ret2
  exact ⟨rfl, rfl⟩
set_option maxHeartbeats 400000 in
theorem end_open (w : World) (r : Nat) (S : Nat → Prop) (ws : List Nat) (h : IsRdr w r ws false S) :
    Calls Try.prog 21 #[.pointer (some ⟨r, 0, none⟩)] w fun e w' => e = .returned (.tuple #[.int .i64 (ws.length : Int), .int .i64 0]) ∧ IsRdr w' r [] true S ∧ w.grownBy w' (some r) := by
  obtain ⟨A0, n0, c0, hblk, hl, hnc, hr, hA⟩ := h
  subst hl
  have h1 : w.cell? ⟨r, 1, none⟩ = some (.bool false) := blk_cell hblk 1
  have h0 : w.cell? ⟨r, 0, none⟩ = some (.slice A0 ws.length c0) := blk_cell hblk 0
  have f0 := blk_frozen hblk 0
  have f1 := blk_frozen hblk 1
  have Hblk := Lib.hid hblk; clear hblk
  go_enter Try.func21, Try.ntmps21
  go_wp2_with fail
  go_ret2
  exact ⟨rfl, ⟨none, 0, 0, blk_set (blk_set Hblk.out 1 _) 0 _, rfl, Nat.le_refl _, Rd.nil _ _, fun a ha => by cases ha⟩, grown_setCell (grown_set _ _ _ _) 0 _⟩
theorem waiting_nil (w : World) :
    Calls Try.prog 27 #[.pointer none] w fun e w' => e = .returned (.int .i64 0) ∧ w = w' := by
  go_enter Try.func27, Try.ntmps27
  go_wp2_with fail
  go_ret
  exact ⟨rfl, rfl⟩
theorem waiting_any (w : World) (r : Nat) (S : Nat → Prop) (ws : List Nat) (cl : Bool) (h : IsRdr w r ws cl S) :
    Calls Try.prog 27 #[.pointer (some ⟨r, 0, none⟩)] w fun e w' => e = .returned (.int .i64 (ws.length : Int)) ∧ w = w' := by
  obtain ⟨A0, n0, c0, hblk, hl, _⟩ := h
  subst hl
  have h0 : w.cell? ⟨r, 0, none⟩ = some (.slice A0 ws.length c0) := blk_cell hblk 0
  clear hblk
  go_enter Try.func27, Try.ntmps27
  go_wp2_with fail
  go_ret
  exact ⟨rfl, rfl⟩
theorem frNew (w : World) :
    Calls Try.prog 16 #[] w fun e w' => e = .returned (.pointer (some ⟨w.heap.size, 0, none⟩)) ∧ IsRdr w' w.heap.size [] false (fun _ => False) ∧ Ext w w' ∧ w.heap.size + 1 = w'.heap.size := by
  go_enter Try.func16, Try.ntmps16
  go_wp2_with fail
  go_ret
  exact ⟨rfl, ⟨none, 0, 0, blk_new w _, rfl, Nat.le_refl _, Rd.nil _ _, fun a ha => by cases ha⟩, (Ext.refl w).alloc _, by simp⟩

/-- the four bytes of a length -/
def len4 (n : Nat) : List Nat := [n / 16777216 % 256, n / 65536 % 256, n / 256 % 256, n % 256]
theorem len4_num (n : Nat) (h : n < 4294967296) : numB (len4 n) = n := by
  have e : numB (len4 n) = (((0 * 256 + n / 16777216 % 256) * 256 + n / 65536 % 256) * 256 + n / 256 % 256) * 256 + n % 256 := rfl
  rw [e]; omega
theorem frEncode_long (w : World) (A : Option Addr) (n c : Nat) (h : 4096 < n) :
    Calls Try.prog 18 #[.slice A n c] w fun e w' => e = .returned (.tuple #[.slice none 0 0, .int .i64 2]) ∧ w = w' := by
  go_enter Try.func18, Try.ntmps18
  go_wp2_with fail
  go_ret2
  exact ⟨rfl, rfl⟩
theorem frEncode_none (w : World) (A : Option Addr) (c : Nat) :
    Calls Try.prog 18 #[.slice A 0 c] w fun e w' => e = .returned (.tuple #[.slice none 0 0, .int .i64 3]) ∧ w = w' := by
  go_enter Try.func18, Try.ntmps18
  go_wp2_with fail
  go_ret2
  exact ⟨rfl, rfl⟩
set_option maxHeartbeats 400000 in
theorem frEncode_ok (w : World) (A : Option Addr) (n c : Nat) (xs : List Nat) (h : n ≤ 4096) (h0 : 1 ≤ n) (hl : xs.length = n) (hr : Rd w A (vals .u8 xs)) :
    Calls Try.prog 18 #[.slice A n c] w (RetBE (len4 n ++ xs) 0 w) := by
  have hne : ((n : Int) == 0) = false := by rw [beq_eq_false_iff_ne]; omega
  have Hl := Lib.hid hl; have Hr := Lib.hid hr; clear hl hr
  have ho := fun (x0 x1 x2 x3 : Int) (e0 : x0 = ((n / 16777216 % 256 : Nat) : Int)) (e1 : x1 = ((n / 65536 % 256 : Nat) : Int)) (e2 : x2 = ((n / 256 % 256 : Nat) : Int)) (e3 : x3 = ((n % 256 : Nat) : Int)) => show (w.alloc (.cells #[.int .u8 x0, .int .u8 x1, .int .u8 x2, .int .u8 x3] 5)).ownsRow w.heap.size 5 1 (.slice (some ⟨w.heap.size, 0, none⟩) 4 4) 4 (vals .u8 (len4 n)) by
    subst e0 e1 e2 e3
    exact own_made w _ 5 1 4 rfl (by unfold maxLen; omega) (Nat.le_refl _)
  go_enter Try.func18, Try.ntmps18
  go_wp2_with (first | (at_builtin; refine app_u8 _ rfl (.tmp 24) (.tmp 25) rfl w.heap.size rfl (ho _ _ _ _ (by omega) (by omega) (by omega) (by omega)) rfl Hl.out (Hr.out.alloc _) (by omega) (by simp) ?_; intro A1 c1 w1 hown1 hgrow1 _) | fail)
  go_ret2
  exact retBE_of (by rw [List.length_append, Hl.out]; rfl) hown1 (((Ext.refl w).alloc _).grown hgrow1 (by simp [Value.ownBlock]))
end Go.Proofs.Ythkdjjfnmlemdaa
