/- strings.Builder: copyCheck, WriteByte, String: walked here (the shelf's own laying names a body that is cut off here). -/
import Derived.Test.YtkebkhgjoiiapaaFrA
import Derived.Test.YtkebkhgjoiiapaaBytes
import Derived.Lib.Builder
import Derived.Lib.UnsafeStr
import Derived.Deep.RegionWith
namespace Go.Proofs.Ytkebkhgjoiiapaa
open Go.RowKit

set_option maxRecDepth 100000 in
theorem bld_used (b : Nat) (w : World) (h0 : w.cell? ⟨b, 0, none⟩ = some (.pointer (some ⟨b, 0, none⟩))) :
    Calls Try.prog 83 #[.pointer (some ⟨b, 0, none⟩)] w fun e w' => e = .returned (.tuple #[]) ∧ w = w' := by
  obtain ⟨j, hj, _⟩ := Option.map_eq_some_iff.1 (show (Try.prog.info? 108).map (·.size) = some 2 by kernel_rfl)
  go_enter Try.func83, Try.ntmps83
  go_wp2
  rw [Lib.run_neq_ptr_same w _ Try.underlying106 hj]
  go_wp2
  go_end0
  exact ⟨rfl, rfl⟩
set_option maxRecDepth 100000 in
theorem bld_fresh (b : Nat) (w : World) (h0 : w.cell? ⟨b, 0, none⟩ = some (.pointer none)) (hsh : w.shape? b = some (108, 2)) (hfz : w.frozen? ⟨b, 0, none⟩ = false) :
    Calls Try.prog 83 #[.pointer (some ⟨b, 0, none⟩)] w fun e w' => e = .returned (.tuple #[]) ∧ w.setCell ⟨b, 0, none⟩ (.pointer (some ⟨b, 0, none⟩)) = w' := by
  obtain ⟨j, hj, hjs⟩ := Option.map_eq_some_iff.1 (show (Try.prog.info? 108).map (·.size) = some 2 by kernel_rfl)
  go_enter Try.func83, Try.ntmps83
  go_wp2
  rw [Lib.run_to_unsafe w ⟨b, 0, none⟩ Try.underlying106 Try.underlying135 hj (by rw [hjs]; decide) hsh (Nat.zero_lt_succ 1)]
  simp only [Result.andThen]
  rw [Oper.upon_value]
  go_wp2
  rw [run_callFunc_extern Try.func87 (by kernel_rfl) (by kernel_rfl) (by kernel_rfl) (e := Extern.AbiNoEscape.same) (by kernel_rfl)]
  rw [Lib.run_noEscape]
  simp only [Result.andThen]
  rw [Oper.upon_value]
  go_wp2
  rw [Lib.run_from_unsafe w ⟨b, 0, none⟩ Try.underlying135 Try.underlying106 hj hsh (by kernel_rfl)]
  simp only [Result.andThen]
  rw [Oper.upon_value]
  go_wp2
  go_end0
  exact ⟨rfl, rfl⟩
abbrev BldAt (B b : Nat) (p : Value) (bs : List Value) (w : World) : Prop := Lib.BuilderAt 108 5 B b p bs w
abbrev IsBld (B b : Nat) (bs : List Value) (w : World) : Prop := Lib.IsBuilder 108 5 B b bs w
theorem bld_check (B b : Nat) (bs : List Value) (w : World) (h : IsBld B b bs w) :
    Calls Try.prog 83 #[.pointer (some ⟨b, 0, none⟩)] w fun e w' => e = .returned (.tuple #[]) ∧ BldAt B b (.pointer (some ⟨b, 0, none⟩)) bs w' ∧ Below B w w' := by
  rcases h with h | h
  · refine (bld_fresh b w h.cell0 h.shape h.frozen0).mono ?_
    rintro e w' ⟨rfl, rfl⟩
    exact ⟨rfl, h.used _, (Below.refl B w).setCell (p := ⟨b, 0, none⟩) h.1 _⟩
  · refine (bld_used b w h.cell0).mono ?_
    rintro e w' ⟨rfl, rfl⟩
    exact ⟨rfl, h, Below.refl B _⟩
set_option maxHeartbeats 1000000 in
set_option maxRecDepth 100000 in
theorem bld_write (B b : Nat) (xs : List Nat) (x : Nat) (w : World) (h : IsBld B b (vals .u8 xs) w) (hlen : xs.length + 1 ≤ 140737488355328) (hBw : B ≤ w.heap.size) :
    Calls Try.prog 63 #[.pointer (some ⟨b, 0, none⟩), .int .u8 (x : Int)] w fun e w' => e = .returned .nilIface ∧ BldAt B b (.pointer (some ⟨b, 0, none⟩)) (vals .u8 (xs ++ [x])) w' ∧ Below B w w' := by
  have C := Lib.hid (bld_check B b (vals .u8 xs) w h)
  clear h
  go_enter Try.func63, Try.ntmps63
  go_wp2_with fail
  refine C.out.mono ?_
  rintro e w1 ⟨rfl, h1, hb1⟩
  obtain ⟨hB, v, hbk, hown, hne⟩ := h1
  rw [vals_len] at hown
  obtain ⟨A0, c0', rfl⟩ := own_form hown
  have c0 : w1.cell? ⟨b, 0, none⟩ = some (.pointer (some ⟨b, 0, none⟩)) := by rw [Lib.cell_of_heap hbk]; rfl
  have c1 : w1.cell? ⟨b, 1, none⟩ = some (.slice A0 xs.length c0') := by rw [Lib.cell_of_heap hbk]; rfl
  have hBs : B ≤ w1.heap.size := Nat.le_trans hBw hb1.size
  have hlt : b < w1.heap.size := blk_lt hbk
  have Hbk := Lib.hid hbk; have Hne := Lib.hid hne; clear hbk hne
  go_wp2_with (first | (at_builtin; refine app_u8 _ rfl (.tmp 11) (.tmp 13) rfl B rfl (hown.alloc _) rfl (m := 1) (news := [x]) rfl (rd_new _ _ _) (by omega) (by simp; omega) ?_; intro A2 c2 w2 hown2 hgrow2 _; have hb2 : Hid (w2.heap[b]? = some (.cells #[.pointer (some ⟨b, 0, none⟩), .slice A0 xs.length c0'] 108 (0, 0))) := ((hgrow2.block b (by simp; omega) (fun e => Hne.out e.symm)).trans (blk_past Hbk.out _)); have d0 := blk_cell hb2.out 0; have d1 := blk_cell hb2.out 1; have f1 := blk_frozen hb2.out 1) | fail)
  go_ret
  refine ⟨rfl, ?_, ?_⟩
  · exact Lib.BuilderAt.put (T := 108) (e := 5) hB hb2.out (bs' := vals .u8 (xs ++ [x])) (by rw [vals_len]; simpa using hown2) (by decide)
  · exact ((hb1.alloc hBs _).grown hgrow2 (by simp; omega) (own_ge hown)).setCell (p := ⟨b, 1, none⟩) hB _
theorem byteCells_vals (l : List UInt8) : Lib.byteCells l = vals .u8 (l.map UInt8.toNat) := by simp [Lib.byteCells, vals]
set_option maxHeartbeats 2000000 in
set_option maxRecDepth 100000 in
theorem bld_string (B b : Nat) (l : List UInt8) (w : World) (h : IsBld B b (Lib.byteCells l) w) (h0 : l ≠ []) :
    Calls Try.prog 64 #[.pointer (some ⟨b, 0, none⟩)] w fun e w' => e = .returned (.string ⟨l.toArray⟩) ∧ Below B w w' := by
  obtain ⟨p, hB, v, hbk, hown, hne⟩ : ∃ p, BldAt B b p (Lib.byteCells l) w := by
    rcases h with h | h
    · exact ⟨_, h⟩
    · exact ⟨_, h⟩
  have hl0 : l.length ≠ 0 := by simpa using h0
  rw [Lib.byteCells_length] at hown
  obtain ⟨g, cap, cur, rfl, hbg, hg, hnc, hcm, hcs, htake⟩ : ∃ g cap cur, v = .slice (some ⟨g, 0, none⟩) l.length cap ∧ B ≤ g ∧ w.heap[g]? = some (.cells cur 5 (0, 0)) ∧ l.length ≤ cap ∧ cap ≤ maxLen ∧ cur.size = cap * 1 ∧ cur.toList.take (l.length * 1) = Lib.byteCells l := by
    rcases hown.2 with ⟨_, hz⟩ | ⟨g, cap, cur, hv, r⟩
    · exact absurd hz hl0
    · exact ⟨g, cap, cur, hv, r⟩
  have c1 : w.drew.cell? ⟨b, 1, none⟩ = some (.slice (some ⟨g, 0, none⟩) l.length cap) := by
    have : w.drew.heap[b]? = some (.cells #[p, .slice (some ⟨g, 0, none⟩) l.length cap] 108 (0, 0)) := hbk
    rw [Lib.cell_of_heap this]; rfl
  have hSD : (Builtin.unsafeSliceData_ #[22] 131 #[.slice (some ⟨g, 0, none⟩) l.length cap]).run Try.prog w.drew = .ok (.pointer (some ⟨g, 0, none⟩)) w.drew :=
    Lib.run_unsafeSliceData_row _ _ _ _ _ _ (by omega)
  have hUS : (Builtin.unsafeString_ #[131, 3] 9 #[.pointer (some ⟨g, 0, none⟩), .int .i64 l.length]).run Try.prog w.drew = .ok (.string ⟨l.toArray⟩) (w.drew.freeze ⟨g, 0, none⟩ l.length) := by
    refine Lib.run_unsafeString_row w.drew 131 3 9 5 Try.underlying131 (by kernel_rfl) g cur.size (by have hg' : w.drew.heap[g]? = some (.cells cur 5 (0, 0)) := hg; simp [World.shape?, hg']) l h0 (by omega) (by unfold maxLen at hcm; omega) ?_
    intro j x hx
    have := hown.cells (g := g) rfl j (.int .u8 x.toNat) (by simp [Lib.byteCells, hx])
    exact this
  go_enter Try.func64, Try.ntmps64
  go_wp2
  go_region
  all_goals (go_wp2; go_ret; exact ⟨rfl, Lib.below_freeze (Below.drew (Below.refl B w)) (p := ⟨g, 0, none⟩) hbg _⟩)
set_option maxHeartbeats 2000000 in
set_option maxRecDepth 100000 in
theorem bld_string_nil (B b : Nat) (p : Value) (w : World) (hbk : w.heap[b]? = some (.cells #[p, .slice none 0 0] 108 (0, 0))) :
    Calls Try.prog 64 #[.pointer (some ⟨b, 0, none⟩)] w fun e w' => e = .returned (.string ⟨#[]⟩) ∧ Below B w w' := by
  have hUS : ∀ (W : World) (q : Option Addr), (Builtin.unsafeString_ #[131, 3] 9 #[.pointer q, .int .i64 0]).run Try.prog W = .ok (.string .empty) W := fun W q => Lib.run_unsafeString_none W _ _ _ q
  have c1 : w.drew.cell? ⟨b, 1, none⟩ = some (.slice none 0 0) := by
    have : w.drew.heap[b]? = some (.cells #[p, .slice none 0 0] 108 (0, 0)) := hbk
    rw [Lib.cell_of_heap this]; rfl
  have hSD : (Builtin.unsafeSliceData_ #[22] 131 #[.slice none 0 0]).run Try.prog w.drew = .ok (.pointer none) w.drew := rfl
  go_enter Try.func64, Try.ntmps64
  go_wp2
  go_region
  all_goals (go_wp2; go_ret; exact ⟨rfl, Below.drew (Below.refl B w)⟩)
end Go.Proofs.Ytkebkhgjoiiapaa
