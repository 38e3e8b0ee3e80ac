/- spigotref13: Pending, Pinned, Epoch, Held, DocNew, end, DocStart. -/
import Derived.Test.YtlgggeeflomelaaDcA
namespace Go.Proofs.Ytlgggeeflomelaa
open Go.RowKit

/-- the cells of a worker, one by one -/
theorem DAt.cells {w : World} {F : Nat → Prop} {gk n who : Nat} {d : DSt} (h : DAt w F gk n d) (hw : who < n) :
    ∃ B c, w.cell? ⟨gk + 1, 0, none⟩ = some (.int .i64 (d.ep : Int)) ∧ w.cell? ⟨gk + 1, 1, none⟩ = some (.slice (some ⟨gk, 0, none⟩) n n) ∧ w.cell? ⟨gk, who * 7, none⟩ = some (.int .u8 ((d.wk who).op : Int)) ∧ w.cell? ⟨gk, who * 7 + 1, none⟩ = some (.int .i64 ((d.wk who).place : Int)) ∧
      w.cell? ⟨gk, who * 7 + 2, none⟩ = some (.int .i64 ((d.wk who).e : Int)) ∧ w.cell? ⟨gk, who * 7 + 3, none⟩ = some (.int .i64 (d.wk who).thing) ∧ w.cell? ⟨gk, who * 7 + 4, none⟩ = some (.bool (d.wk who).pinned) ∧ w.cell? ⟨gk, who * 7 + 5, none⟩ = some (.slice B (d.wk who).held.length c) ∧ w.cell? ⟨gk, who * 7 + 6, none⟩ = some (.int .i64 ((d.wk who).p : Int)) ∧
      (∀ j, w.frozen? ⟨gk, j, none⟩ = false) ∧ w.ownsRow (gk + 1) 138 2 (.slice B (d.wk who).held.length c) (d.wk who).held.length (dthings (d.wk who).held) := by
  obtain ⟨B, c, h2, h3, h4, h5, h6, h7, h8, h9, _⟩ := h.wk hw
  exact ⟨B, c, h4, h5, h7 0 (by omega), h7 1 (by omega), h7 2 (by omega), h7 3 (by omega), h7 4 (by omega), h7 5 (by omega), h7 6 (by omega), h8, h9⟩
theorem DAt.x1 {w : World} {F : Nat → Prop} {gk n : Nat} {d : DSt} (h : DAt w F gk n d) : w.cell? ⟨gk + 1, 1, none⟩ = some (.slice (some ⟨gk, 0, none⟩) n n) := by
  obtain ⟨_, h1, _⟩ := h
  exact blk_cell h1 1
theorem dpend_any (w : World) (F : Nat → Prop) (gk n who : Nat) (d : DSt) (h : DAt w F gk n d) (hw : who < n) (b : Bool) (hb : (b = true ∧ (d.wk who).op ≠ 0) ∨ (b = false ∧ (d.wk who).op = 0)) :
    Calls Try.prog 27 #[.pointer (some ⟨gk + 1, 0, none⟩), .int .i64 (who : Int)] w fun e w' => e = .returned (.bool b) ∧ w = w' := by
  obtain ⟨B, c, -, x1, c0, -⟩ := h.cells hw
  have TH := Lib.hid (dthere_ok w gk n who x1 hw)
  have hq : (((d.wk who).op : Int) != 0) = b := by
    rcases hb with ⟨rfl, hb⟩ | ⟨rfl, hb⟩
    · rw [bne_iff_ne]; omega
    · rw [bne_eq_false_iff_eq]; omega
  obtain ⟨o, ho⟩ : ∃ o, (d.wk who).op = o := ⟨_, rfl⟩
  rw [ho] at c0 hq
  clear h hb ho
  go_enter Try.func27, Try.ntmps27
  go_wp2_with fail
  refine TH.out.mono ?_
  rintro e w1 ⟨rfl, rfl⟩
  go_wp2_with fail
  go_ret
  exact ⟨rfl, rfl⟩
theorem dpend_bad (w : World) (gk n : Nat) (who : Int) (h : w.cell? ⟨gk + 1, 1, none⟩ = some (.slice (some ⟨gk, 0, none⟩) n n)) (hb : ¬ (0 ≤ who ∧ who < (n : Int))) :
    Calls Try.prog 27 #[.pointer (some ⟨gk + 1, 0, none⟩), .int .i64 who] w fun e w' => e = .returned (.bool false) ∧ w = w' := by
  have TH := Lib.hid (dthere_bad w gk n who h hb)
  clear hb
  go_enter Try.func27, Try.ntmps27
  go_wp2_with fail
  refine TH.out.mono ?_
  rintro e w1 ⟨rfl, rfl⟩
  go_wp2_with fail
  go_ret
  exact ⟨rfl, rfl⟩
theorem dpinned_any (w : World) (F : Nat → Prop) (gk n who : Nat) (d : DSt) (h : DAt w F gk n d) (hw : who < n) :
    Calls Try.prog 28 #[.pointer (some ⟨gk + 1, 0, none⟩), .int .i64 (who : Int)] w fun e w' => e = .returned (.bool (d.wk who).pinned) ∧ w = w' := by
  obtain ⟨B, c, -, x1, -, -, -, -, c4, -⟩ := h.cells hw
  have TH := Lib.hid (dthere_ok w gk n who x1 hw)
  obtain ⟨b, hb⟩ : ∃ b, (d.wk who).pinned = b := ⟨_, rfl⟩
  rw [hb] at c4 ⊢
  clear h hb
  go_enter Try.func28, Try.ntmps28
  go_wp2_with fail
  refine TH.out.mono ?_
  rintro e w1 ⟨rfl, rfl⟩
  go_wp2_with fail
  go_ret
  exact ⟨rfl, rfl⟩
theorem dpinned_bad (w : World) (gk n : Nat) (who : Int) (h : w.cell? ⟨gk + 1, 1, none⟩ = some (.slice (some ⟨gk, 0, none⟩) n n)) (hb : ¬ (0 ≤ who ∧ who < (n : Int))) :
    Calls Try.prog 28 #[.pointer (some ⟨gk + 1, 0, none⟩), .int .i64 who] w fun e w' => e = .returned (.bool false) ∧ w = w' := by
  have TH := Lib.hid (dthere_bad w gk n who h hb)
  clear hb
  go_enter Try.func28, Try.ntmps28
  go_wp2_with fail
  refine TH.out.mono ?_
  rintro e w1 ⟨rfl, rfl⟩
  go_wp2_with fail
  go_ret
  exact ⟨rfl, rfl⟩
theorem depoch_any (w : World) (F : Nat → Prop) (gk n : Nat) (d : DSt) (h : DAt w F gk n d) :
    Calls Try.prog 29 #[.pointer (some ⟨gk + 1, 0, none⟩)] w fun e w' => e = .returned (.int .i64 (d.ep : Int)) ∧ w = w' := by
  obtain ⟨ps, h1, -⟩ := h
  have c0 : w.cell? ⟨gk + 1, 0, none⟩ = some (.int .i64 (d.ep : Int)) := blk_cell h1 0
  obtain ⟨ep, hep⟩ : ∃ ep, d.ep = ep := ⟨_, rfl⟩
  rw [hep] at c0 ⊢
  clear h1 hep
  go_enter Try.func29, Try.ntmps29
  go_wp2
  go_ret
  exact ⟨rfl, rfl⟩
theorem down_thing {w : World} {base : Nat} {B : Option Addr} {n c k : Nat} {xs : List (Int × Nat)} {t : Int × Nat} (h : w.ownsRow base 138 2 (.slice B n c) n (dthings xs)) (hk : xs[k]? = some t) :
    ∃ b, B = some ⟨b, 0, none⟩ ∧ w.cell? ⟨b, k * 2, none⟩ = some (.int .i64 t.1) ∧ w.cell? ⟨b, k * 2 + 1, none⟩ = some (.int .i64 (t.2 : Int)) := by
  have hl : xs.length = n := by have := h.1; rw [dthings_len] at this; omega
  have hkl : k < xs.length := (List.getElem?_eq_some_iff.1 hk).1
  obtain ⟨q, rfl, _, _⟩ := own_block h (by omega)
  refine ⟨q, rfl, ?_, ?_⟩
  · have := h.cellAt (k * 2) (by omega)
    rw [this]
    exact dthings_get hk 0 (by omega)
  · have := h.cellAt (k * 2 + 1) (by omega)
    rw [this]
    exact dthings_get hk 1 (by omega)
theorem dheld_bad (w : World) (gk n : Nat) (who : Int) (h : w.cell? ⟨gk + 1, 1, none⟩ = some (.slice (some ⟨gk, 0, none⟩) n n)) (hb : ¬ (0 ≤ who ∧ who < (n : Int))) :
    Calls Try.prog 30 #[.pointer (some ⟨gk + 1, 0, none⟩), .int .i64 who] w fun e w' => e = .returned (.slice none 0 0) ∧ w = w' := by
  have TH := Lib.hid (dthere_bad w gk n who h hb)
  clear hb
  go_enter Try.func30, Try.ntmps30
  go_wp2_with fail
  refine TH.out.mono ?_
  rintro e w1 ⟨rfl, rfl⟩
  go_wp2_with fail
  go_ret
  exact ⟨rfl, rfl⟩
set_option maxHeartbeats 1000000 in
theorem dheld_any (w : World) (F : Nat → Prop) (gk n who : Nat) (d : DSt) (h : DAt w F gk n d) (hw : who < n) (hlen : (d.wk who).held.length ≤ 1000000) :
    Calls Try.prog 30 #[.pointer (some ⟨gk + 1, 0, none⟩), .int .i64 (who : Int)] w (RetN ((d.wk who).held.map (·.1)) w) := by
  obtain ⟨B, c, -, x1, -, -, -, -, -, xh, -, -, ho⟩ := h.cells hw
  obtain ⟨xs, hxs⟩ : ∃ xs, (d.wk who).held = xs := ⟨_, rfl⟩
  rw [hxs] at xh ho hlen ⊢
  obtain ⟨m, hm⟩ : ∃ m, xs.length = m := ⟨_, rfl⟩
  have Hm := Lib.hid hm
  rw [hm] at xh ho hlen
  have HO := Lib.hid ho
  have TH := Lib.hid (dthere_ok w gk n who x1 hw)
  clear ho h hxs hm
  go_enter Try.func30, Try.ntmps30
  go_wp2_with fail
  refine TH.out.mono ?_
  rintro e w1 ⟨rfl, rfl⟩
  go_wp2_with fail
  go_loopw [5, 20] (fun v i wr => ∃ k A cA, k ≤ m ∧ i = .int .i64 (k : Int) ∧ v = .slice A k cA ∧ wr.ownsRow w.heap.size 3 1 (.slice A k cA) k (ivals ((xs.take k).map (·.1))) ∧ Ext w wr) (fun _ i _ => m - (intOf i).toNat)
  case atStart => exact ⟨0, none, 0, Nat.zero_le _, rfl, rfl, World.ownsRow_nil _ _ _ _, Ext.refl w⟩
  case round =>
    obtain ⟨k, A, cA, hk, rfl, rfl, hA, hx⟩ := hrel
    by_cases hlt : k < m
    · obtain ⟨t, ht⟩ : ∃ t, xs[k]? = some t := ⟨_, List.getElem?_eq_getElem (by rw [Hm.out]; exact hlt)⟩
      obtain ⟨b, hb, c0, c1⟩ := down_thing HO.out ht
      have d0 := ext_cell hx c0; have d1 := ext_cell hx c1
      subst hb
      have Ht := Lib.hid ht; have HX := Lib.hid hx; have HA := Lib.hid hA
      have hs : w.heap.size ≤ wr.heap.size := hx.size
      clear ht hx hA
      go_wp2_with (at_builtin; refine app_int _ rfl (.tmp 24) (.tmp 27) rfl w.heap.size rfl ((HA.out.alloc _).alloc _) rfl (m := 1) (news := [t.1]) rfl (rd_newk (wr.alloc _) [.int .i64 t.1] _ (by simp)) (by omega) (by rw [World.size_alloc, World.size_alloc]; omega) ?_; intro A1 c1 w1 hown1 hgrow1 _; have hx1 : Ext w w1 := ((HX.out.alloc _).alloc _).grown hgrow1 (own_ge HA.out))
      go_roundw
      case rel => exact ⟨k + 1, A1, c1, hlt, by go_num, rfl, by rw [map_succ Ht.out]; exact hown1, hx1⟩
      case measure => simp [intOf]; omega
    · obtain rfl : k = m := by omega
      go_wp2_with fail
      go_ret
      rw [List.take_of_length_le (by rw [Hm.out]; exact Nat.le_refl _)] at hA
      have hl : (xs.map (·.1)).length = k := by rw [List.length_map, Hm.out]
      exact ⟨A, cA, by rw [hl]; rfl, by rw [hl]; exact hA, hx⟩
def dInit : DSt := ⟨0, fun _ => ⟨0, 0, 0, 0, false, [], 0⟩⟩
def DocNewR (n : Nat) (w : World) (e : Ending) (w' : World) : Prop := ∃ gk F, e = .returned (.tuple #[.pointer (some ⟨gk + 1, 0, none⟩), .int .i64 0]) ∧ DAt w' F gk n dInit ∧ Ext w w' ∧ ∀ i, F i → w.heap.size ≤ i
theorem info_dworker : (Try.prog.info? 134).map (fun i => (i.zero, i.size, i.bytes)) = some (some (.agg #[.int .u8 0, .int .i64 0, .int .i64 0, .int .i64 0, .bool false, .slice none 0 0, .int .i64 0]), 7, 72) := by kernel_rfl
theorem dmake (n : Nat) (hn : n ≤ 64) (w : World) : (Instr.makeSlice 128 (.int .i64 (n : Int)) (.int .i64 (n : Int))).run Try.prog w = .ok (.slice (some ⟨w.heap.size, 0, none⟩) n n) (w.alloc (.cells (dwcs (List.replicate n (⟨0, 0, 0, 0, false, [], 0⟩, .slice none 0 0))).toArray 134)) := by
  obtain ⟨i, hi, hz, hs, hb⟩ := info_parts info_dworker
  have hr := run_make (P := Try.prog) w 128 134 i _ Try.underlying128 hi hz .i64 .i64 n n (by omega) (Int.le_refl _) (by rw [hb]; omega) (by omega)
  refine hr.trans ?_
  have hm : madeCells (Value.cells (.agg #[.int .u8 0, .int .i64 0, .int .i64 0, .int .i64 0, .bool false, .slice none 0 0, .int .i64 0])) ((n : Int).toNat * i.size) = (dwcs (List.replicate n (⟨0, 0, 0, 0, false, [], 0⟩, .slice none 0 0))).toArray := by
    rw [hs, Int.toNat_natCast]
    exact made_flat dwc (⟨0, 0, 0, 0, false, [], 0⟩, .slice none 0 0) n 7 rfl (by omega)
  rw [hm, Int.toNat_natCast]
set_option maxRecDepth 100000 in
theorem docnew_ok (n : Nat) (w : World) (h1 : 1 ≤ n) (h2 : n ≤ 64) : Calls Try.prog 23 #[.int .i64 (n : Int)] w (DocNewR n w) := by
  have hmk := dmake n h2
  have a1 : ¬ (n : Int) < 1 := by omega
  have a2 : ¬ (64 : Int) < (n : Int) := by omega
  go_enter Try.func23, Try.ntmps23
  go_wp2_with fail
  go_ret2
  refine ⟨w.heap.size, fun i => i = w.heap.size ∨ i = w.heap.size + 1, ?_, ⟨List.replicate n (⟨0, 0, 0, 0, false, [], 0⟩, .slice none 0 0), blk_newk _ _ (by simp), blk_past (blk_new w _) _, by simp, fun i v hv => ?_, fun i j vi vj q hi hj hqi _ => ?_, .inr rfl, .inl rfl, fun i hi => ?_⟩, ((Ext.refl w).alloc _).alloc _, fun i hi => by omega⟩
  · simp
  · rw [List.getElem?_replicate] at hv
    split at hv
    · injection hv with hv
      subst hv
      exact ⟨rfl, ⟨none, 0, rfl, World.ownsRow_nil _ _ _ _⟩, fun q e => by cases e⟩
    · cases hv
  · rw [List.getElem?_replicate] at hi
    split at hi
    · injection hi with hi
      subst hi
      cases hqi
    · cases hi
  · rw [World.size_alloc, World.size_alloc]; omega
theorem docnew_bad (n : Int) (w : World) (h : n < 1 ∨ 64 < n) : Calls Try.prog 23 #[.int .i64 n] w fun e w' => e = .returned (.tuple #[.pointer none, .int .i64 1]) ∧ w = w' := by
  by_cases h0 : n < 1
  · clear h
    go_enter Try.func23, Try.ntmps23
    go_wp2
    go_ret2
    exact ⟨rfl, rfl⟩
  · have h1 : 64 < n := by omega
    clear h
    go_enter Try.func23, Try.ntmps23
    go_wp2
    go_ret2
    exact ⟨rfl, rfl⟩
end Go.Proofs.Ytlgggeeflomelaa
