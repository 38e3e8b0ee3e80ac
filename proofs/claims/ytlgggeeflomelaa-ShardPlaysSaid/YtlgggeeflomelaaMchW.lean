/- mach: New, Load, Swap, Word. -/
import Derived.Test.YtlgggeeflomelaaMchB
import Derived.Deep.OwnRows
namespace Go.Proofs.Ytlgggeeflomelaa
open Go.RowKit

theorem info_u64' : (Try.prog.info? 122).map (fun i => (i.zero, i.size, i.bytes)) = some (some (.int .u64 0), 1, 8) := by kernel_rfl
theorem made_u64 (n : Nat) (t : TypeId) : (.cells (madeCells #[.int .u64 0] n) t : Obj) = .cells (vals .u64 (List.replicate n 0)).toArray t (0, 0) := by
  congr 1
  apply Array.ext'
  rw [toList_madeCells_one]
  simp [vals]
/-- a new machine -/
def MachNew (n : Nat) (w : World) (e : Ending) (w' : World) : Prop :=
  ∃ g F, e = .returned (.tuple #[.pointer (some ⟨g, 0, none⟩), .int .i64 0]) ∧ MachAt w' F g (List.replicate n 0) 0 [] ∧ Ext w w' ∧ (∀ i, F i → w.heap.size ≤ i) ∧ w.heap.size ≤ g
theorem mnew_ok (n : Nat) (w : World) (h1 : 1 ≤ n) (h2 : n ≤ 4096) : Calls Try.prog 51 #[.int .i64 (n : Int)] w (MachNew n w) := by
  have a1 : ¬ (n : Int) < 1 := by omega
  have a2 : ¬ 4096 < (n : Int) := by omega
  have hmk := run_make_row' (P := Try.prog) 165 122 (.int .u64 0) 8 Try.underlying165 info_u64' rfl .i64 .i64 n (by omega) (by omega)
  go_enter Try.func51, Try.ntmps51
  go_wp2_with fail
  go_ret2
  refine ⟨w.heap.size + 1, fun i => i = w.heap.size ∨ i = w.heap.size + 1, rfl, ⟨w.heap.size, none, 0, 0, 0, ?_, ?_, World.ownsRow_nil _ _ _ _, rfl, by omega, .inl rfl, by omega, .inr rfl, .inl rfl, fun q e => (by cases e), fun i hi => ?_⟩, ?_, fun i hi => by omega, by omega⟩
  · rw [List.length_replicate]
    exact blk_newk _ _ (by simp)
  · exact (blk_past (blk_new w _) _).trans (by rw [made_u64])
  · simp; omega
  · exact ((Ext.refl w).alloc _).alloc _
theorem mnew_bad (n : Int) (w : World) (h : n < 1 ∨ 4096 < n) : Calls Try.prog 51 #[.int .i64 n] w fun e w' => e = .returned (.tuple #[.pointer none, .int .i64 1]) ∧ w = w' := by
  by_cases h0 : n < 1
  · go_enter Try.func51, Try.ntmps51
    go_wp2
    go_ret2
    exact ⟨rfl, rfl⟩
  · have h1 : 4096 < n := by omega
    go_enter Try.func51, Try.ntmps51
    go_wp2
    go_ret2
    exact ⟨rfl, rfl⟩
theorem worker_ok (w : World) (a b n : Int) (h1 : 0 ≤ a) (h2 : a < 64) (h3 : 0 ≤ b) (h4 : b < n) : Calls Try.prog 85 #[.int .i64 a, .int .i64 b, .int .i64 n] w fun e w' => e = .returned (.int .i64 0) ∧ w = w' := by
  have := worker_any w a b n
  rwa [if_pos ⟨h1, h2, h3, h4⟩] at this
theorem worker_bad (w : World) (a b n : Int) (h : ¬ (0 ≤ a ∧ a < 64 ∧ 0 ≤ b ∧ b < n)) : Calls Try.prog 85 #[.int .i64 a, .int .i64 b, .int .i64 n] w fun e w' => e = .returned (.int .i64 1) ∧ w = w' := by
  have := worker_any w a b n
  rwa [if_neg h] at this
theorem MachAt.word {w : World} {F : Nat → Prop} {g : Nat} {ws : List Nat} {clk : Int} {L : List AccE} (h : MachAt w F g ws clk L) {i x : Nat} (hx : ws[i]? = some x) :
    ∃ gw, w.cell? ⟨g, 0, none⟩ = some (.slice (some ⟨gw, 0, none⟩) ws.length ws.length) ∧ w.cell? ⟨gw, i, none⟩ = some (.int .u64 (x : Int)) ∧ w.frozen? ⟨gw, i, none⟩ = false ∧
      ∀ y : Nat, MachAt (w.setCell ⟨gw, i, none⟩ (.int .u64 (y : Int))) F g (ws.set i y) clk L ∧ GB w (w.setCell ⟨gw, i, none⟩ (.int .u64 (y : Int))) F := by
  obtain ⟨gw, B, n, cb, kk, h1, h2, h3, h4, h5, h6, h7, h8, h9, h10, h11⟩ := h
  refine ⟨gw, blk_cell h1 0, (blk_cell h2 i).trans (by simpa using vals_get hx), blk_frozen h2 i, fun y => ⟨⟨gw, B, n, cb, kk, ?_, ?_, ?_, h4, h5, h6, h7, h8, h9, h10, fun i hi => by simpa using h11 i hi⟩, (GB.refl w F).set gw i _ (.inl h9)⟩⟩
  · rw [List.length_set]
    exact blk_grown h1 (grown_set w gw i _) (by omega)
  · refine (blk_set h2 i _).trans ?_
    rw [vals_set]
    simp
  · refine h3.kept (grown_set w gw i _) ?_
    cases hq : (Value.slice B n cb).ownBlock with
    | none => exact .inl rfl
    | some q => exact .inr fun e => by injection e with e; have := (h3.lt q hq).1; omega
theorem MachGo.back {w W w' : World} {F F1 : Nat → Prop} {g : Nat} {ws : List Nat} {clk : Int} {L : List AccE} (h : GB w W F) (hf : ∀ i, F1 i → F i ∨ w.heap.size ≤ i) (k : MachGo W F1 g ws clk L w') : MachGo w F g ws clk L w' := by
  obtain ⟨F', k1, k2, k3⟩ := k
  refine ⟨F', k1, h.trans k2 hf, fun i hi => ?_⟩
  rcases k3 i hi with k3 | k3
  · exact hf i k3
  · exact .inr (Nat.le_trans h.size k3)
theorem MachGo.refl {w : World} {F : Nat → Prop} {g : Nat} {ws : List Nat} {clk : Int} {L : List AccE} (h : MachAt w F g ws clk L) : MachGo w F g ws clk L w := ⟨F, h, GB.refl w F, fun _ h => .inl h⟩
theorem load_ok (w : World) (F : Nat → Prop) (g : Nat) (ws : List Nat) (clk : Int) (L : List AccE) (who : Int) (i x : Nat) (h : MachAt w F g ws clk L) (hL : L.length ≤ 1000000) (h1 : 0 ≤ who) (h2 : who < 64) (hx : ws[i]? = some x) :
    Calls Try.prog 80 #[.pointer (some ⟨g, 0, none⟩), .int .i64 who, .int .i64 (i : Int)] w fun e w' => e = .returned (.tuple #[.int .u64 (x : Int), .int .i64 0]) ∧ MachGo w F g ws clk (L ++ [⟨who, 1, i, x, 0, true⟩]) w' := by
  obtain ⟨gw, b0, bx, _, _⟩ := h.word hx
  have hi : i < ws.length := (List.getElem?_eq_some_iff.1 hx).1
  have H := Lib.hid h
  have Hx := Lib.hid hx
  clear h hx
  go_enter Try.func80, Try.ntmps80
  go_wp2_with fail
  refine (msize_any w F g ws clk L H.out).mono ?_
  rintro e w1 ⟨rfl, rfl⟩
  go_wp2_with fail
  refine (worker_ok w who i ws.length h1 h2 (by omega) (by omega)).mono ?_
  rintro e w1 ⟨rfl, rfl⟩
  go_wp2_with fail
  refine (note_any w F g ws clk L ⟨who, 1, i, x, 0, true⟩ H.out hL).mono ?_
  rintro e w1 ⟨rfl, hm⟩
  go_wp2_with fail
  go_ret2
  exact ⟨rfl, hm⟩
theorem load_bad (w : World) (F : Nat → Prop) (g : Nat) (ws : List Nat) (clk : Int) (L : List AccE) (who i : Int) (h : MachAt w F g ws clk L) (hb : ¬ (0 ≤ who ∧ who < 64 ∧ 0 ≤ i ∧ i < (ws.length : Int))) :
    Calls Try.prog 80 #[.pointer (some ⟨g, 0, none⟩), .int .i64 who, .int .i64 i] w fun e w' => e = .returned (.tuple #[.int .u64 0, .int .i64 1]) ∧ w = w' := by
  have H := Lib.hid h; have Hb := Lib.hid hb
  clear h hb
  go_enter Try.func80, Try.ntmps80
  go_wp2_with fail
  refine (msize_any w F g ws clk L H.out).mono ?_
  rintro e w1 ⟨rfl, rfl⟩
  go_wp2_with fail
  refine (worker_bad w who i ws.length Hb.out).mono ?_
  rintro e w1 ⟨rfl, rfl⟩
  go_wp2_with fail
  go_ret2
  exact ⟨rfl, rfl⟩
theorem swap_hit (w : World) (F : Nat → Prop) (g : Nat) (ws : List Nat) (clk : Int) (L : List AccE) (who : Int) (i x new : Nat) (h : MachAt w F g ws clk L) (hL : L.length ≤ 1000000) (h1 : 0 ≤ who) (h2 : who < 64) (hx : ws[i]? = some x) :
    Calls Try.prog 87 #[.pointer (some ⟨g, 0, none⟩), .int .i64 who, .int .i64 (i : Int), .int .u64 (x : Int), .int .u64 (new : Int)] w fun e w' => e = .returned (.tuple #[.bool true, .int .i64 0]) ∧ MachGo w F g (ws.set i new) clk (L ++ [⟨who, 2, i, x, new, true⟩]) w' := by
  obtain ⟨gw, b0, bx, bf, hst⟩ := h.word hx
  obtain ⟨m2, g2⟩ := hst new
  have hi : i < ws.length := (List.getElem?_eq_some_iff.1 hx).1
  have H := Lib.hid h; have M2 := Lib.hid m2
  have Hx := Lib.hid hx
  clear h hx m2 hst
  go_enter Try.func87, Try.ntmps87
  go_wp2_with fail
  refine (msize_any w F g ws clk L H.out).mono ?_
  rintro e w1 ⟨rfl, rfl⟩
  go_wp2_with fail
  refine (worker_ok w who i ws.length h1 h2 (by omega) (by omega)).mono ?_
  rintro e w1 ⟨rfl, rfl⟩
  go_wp2_with fail
  refine (note_any _ F g (ws.set i new) clk L ⟨who, 2, i, x, new, true⟩ M2.out hL).mono ?_
  rintro e w1 ⟨rfl, hm⟩
  go_wp2_with fail
  go_ret2
  exact ⟨rfl, hm.back g2 (fun i hi => .inl hi)⟩
theorem swap_miss (w : World) (F : Nat → Prop) (g : Nat) (ws : List Nat) (clk : Int) (L : List AccE) (who : Int) (i x old new : Nat) (h : MachAt w F g ws clk L) (hL : L.length ≤ 1000000) (h1 : 0 ≤ who) (h2 : who < 64) (hx : ws[i]? = some x) (hne : x ≠ old) :
    Calls Try.prog 87 #[.pointer (some ⟨g, 0, none⟩), .int .i64 who, .int .i64 (i : Int), .int .u64 (old : Int), .int .u64 (new : Int)] w fun e w' => e = .returned (.tuple #[.bool false, .int .i64 0]) ∧ MachGo w F g ws clk (L ++ [⟨who, 2, i, old, new, false⟩]) w' := by
  obtain ⟨gw, b0, bx, bf, hst⟩ := h.word hx
  have hi : i < ws.length := (List.getElem?_eq_some_iff.1 hx).1
  have H := Lib.hid h
  have Hx := Lib.hid hx
  have hd : ((x : Int) == (old : Int)) = false := by rw [beq_eq_false_iff_ne]; omega
  clear h hx hst
  go_enter Try.func87, Try.ntmps87
  go_wp2_with fail
  refine (msize_any w F g ws clk L H.out).mono ?_
  rintro e w1 ⟨rfl, rfl⟩
  go_wp2_with fail
  refine (worker_ok w who i ws.length h1 h2 (by omega) (by omega)).mono ?_
  rintro e w1 ⟨rfl, rfl⟩
  go_wp2_with fail
  refine (note_any _ F g ws clk L ⟨who, 2, i, old, new, false⟩ H.out hL).mono ?_
  rintro e w1 ⟨rfl, hm⟩
  go_wp2_with fail
  go_ret2
  exact ⟨rfl, hm⟩
theorem swap_bad (w : World) (F : Nat → Prop) (g : Nat) (ws : List Nat) (clk : Int) (L : List AccE) (who i : Int) (old new : Nat) (h : MachAt w F g ws clk L) (hb : ¬ (0 ≤ who ∧ who < 64 ∧ 0 ≤ i ∧ i < (ws.length : Int))) :
    Calls Try.prog 87 #[.pointer (some ⟨g, 0, none⟩), .int .i64 who, .int .i64 i, .int .u64 (old : Int), .int .u64 (new : Int)] w fun e w' => e = .returned (.tuple #[.bool false, .int .i64 1]) ∧ w = w' := by
  have H := Lib.hid h; have Hb := Lib.hid hb
  clear h hb
  go_enter Try.func87, Try.ntmps87
  go_wp2_with fail
  refine (msize_any w F g ws clk L H.out).mono ?_
  rintro e w1 ⟨rfl, rfl⟩
  go_wp2_with fail
  refine (worker_bad w who i ws.length Hb.out).mono ?_
  rintro e w1 ⟨rfl, rfl⟩
  go_wp2_with fail
  go_ret2
  exact ⟨rfl, rfl⟩
theorem word_ok (w : World) (F : Nat → Prop) (g : Nat) (ws : List Nat) (clk : Int) (L : List AccE) (i x : Nat) (h : MachAt w F g ws clk L) (hx : ws[i]? = some x) :
    Calls Try.prog 54 #[.pointer (some ⟨g, 0, none⟩), .int .i64 (i : Int)] w fun e w' => e = .returned (.tuple #[.int .u64 (x : Int), .int .i64 0]) ∧ w = w' := by
  obtain ⟨gw, b0, bx, _, _⟩ := h.word hx
  have hi : i < ws.length := (List.getElem?_eq_some_iff.1 hx).1
  have H := Lib.hid h
  have Hx := Lib.hid hx
  clear h hx
  go_enter Try.func54, Try.ntmps54
  go_wp2_with fail
  refine (msize_any w F g ws clk L H.out).mono ?_
  rintro e w1 ⟨rfl, rfl⟩
  go_wp2_with fail
  refine (worker_ok w 0 i ws.length (by omega) (by omega) (by omega) (by omega)).mono ?_
  rintro e w1 ⟨rfl, rfl⟩
  go_wp2_with fail
  go_ret2
  exact ⟨rfl, rfl⟩
end Go.Proofs.Ytlgggeeflomelaa
