/- slices.Insert of one number, slices.Delete of one. -/
import Derived.Test.YtemnhnhpaaoccaaPermB
import Derived.Shelf.Spec.SlicesInsertGrow
import Derived.Shelf.Slices.Delete
namespace Go.Proofs.Ytemnhnhpaaoccaa
open Go.RowKit

def InsR (base : Nat) (A : Option Addr) (n c : Nat) (xs : List Int) (k : Nat) (t : Int) (w : World) (e : Ending) (w' : World) : Prop :=
  ∃ A' c', e = .returned (.slice A' (n + 1) c') ∧ w'.ownsRow base 2 1 (.slice A' (n + 1) c') (n + 1) (ivals (insL xs k t)) ∧ w.grownBy w' (Value.slice A n c).ownBlock
theorem rd_oneI {w : World} {vb : Nat} {t : Int} (h : w.heap[vb]? = some (.cells #[.int .i64 t] 2 (0, 0))) : Rd w (some ⟨vb, 0, none⟩) (ivals [t]) := fun _ => ⟨vb, 0, rfl, fun j u hu => by
  cases j with
  | zero => rw [blk_cell h 0]; exact hu
  | succ j => simp [ivals] at hu⟩
set_option maxHeartbeats 4000000 in
theorem insert_end (w : World) (base : Nat) (A : Option Addr) (n c vb : Nat) (xs : List Int) (t : Int) (hl : xs.length = n) (hn : n ≤ 1000) (ho : w.ownsRow base 2 1 (.slice A n c) n (ivals xs)) (hv : w.heap[vb]? = some (.cells #[.int .i64 t] 2 (0, 0))) (hbase : base ≤ w.heap.size) :
    Calls Try.prog 27 #[.slice A n c, .int .i64 (n : Int), .slice (some ⟨vb, 0, none⟩) 1 1] w (InsR base A n c xs n t w) := by
  have hnc := own_cap ho
  have Ho := Lib.hid ho; have R := Lib.hid (rd_oneI hv); have Hl := Lib.hid hl
  clear ho hv hl
  obtain ⟨A0, hsl, _, _⟩ := slice_from_any Try.underlying22 size_i64 (A := A) (n := n) (c := c) (m := 0) (d := c - n) n (ki := (n : Int)) rfl hnc (by omega) (by omega)
  go_enter Try.func27, Try.ntmps27
  go_wp2_with (at_builtin; refine app_i64 _ rfl (.tmp 23) (.tmp 24) rfl base rfl Ho.out rfl (m := 1) (news := [t]) rfl R.out (by omega) hbase ?_; intro A' c' w1 hown hgrow _)
  go_ret
  refine ⟨A', c', rfl, ?_, hgrow⟩
  have e : insL xs n t = xs ++ [t] := by
    unfold insL
    rw [List.take_of_length_le (by rw [Hl.out]; exact Nat.le_refl _), List.drop_of_length_le (by rw [Hl.out]; exact Nat.le_refl _)]
  rw [e]
  exact hown
theorem info1 : (Try.prog.info? 2).map (·.size) = some 1 := by kernel_rfl
theorem ivals_ins (xs : List Int) (k : Nat) (t : Int) : ivals (insL xs k t) = (ivals xs).take k ++ ([.int .i64 t] ++ (ivals xs).drop k) := by
  simp [ivals, insL, List.map_take, List.map_drop]
set_option maxHeartbeats 4000000 in
set_option maxRecDepth 100000 in
theorem insert_room (w : World) (base : Nat) (A : Option Addr) (n c vb k : Nat) (xs : List Int) (t : Int) (hl : xs.length = n) (hn : n ≤ 1000) (hk : k < n) (hc : n < c) (hcm : c ≤ 9223372036854775807) (ho : w.ownsRow base 2 1 (.slice A n c) n (ivals xs)) (hv : w.heap[vb]? = some (.cells #[.int .i64 t] 2 (0, 0))) (hne : (Value.slice A n c).ownBlock ≠ some vb) :
    Calls Try.prog 27 #[.slice A n c, .int .i64 (k : Int), .slice (some ⟨vb, 0, none⟩) 1 1] w (InsR base A n c xs k t w) := by
  obtain ⟨g, rfl, hg1, hg2⟩ := own_some ho (by omega)
  have hgv : vb ≠ g := fun e => hne (by simp [Value.ownBlock, e])
  obtain ⟨u, hm⟩ := own_more ho hc
  have hshg : ∃ k', w.shape? g = some (2, k') ∧ k' ≠ 0 := by
    rcases ho.2 with ⟨h1, _⟩ | ⟨g', cap, cur, h1, _, hg, _, _, hcs, _⟩
    · injection h1 with h1; cases h1
    · injection h1 with h1 h3 h4
      injection h1 with h1
      injection h1 with h1
      subst h1
      refine ⟨cur.size, ?_, by omega⟩
      simp [World.shape?, hg]
  obtain ⟨kB, hsb, hkB⟩ := hshg
  have hsa : w.shape? vb = some (2, 1) := by simp [World.shape?, hv]
  have hov : ∀ lb cb, (callFunc 33 #[.slice (some ⟨vb, 0, none⟩) 1 1, .slice (some ⟨g, k + 1, none⟩) lb cb]).run Try.prog w = .ok (.value (.bool false)) w := fun lb cb => by
    rw [run_callFunc_extern Try.func33 (by kernel_rfl) (by kernel_rfl) (by kernel_rfl) (e := Extern.SlicesOverlaps.overlaps #[22, 22] #[4]) (by kernel_rfl),
      Lib.run_overlaps_apart w 22 4 2 Try.underlying22 1 size_i64 ⟨vb, 0, none⟩ ⟨g, k + 1, none⟩ 1 1 lb cb hgv 2 2 1 kB hsa hsb hkB (blk_frozen hv 0) (blk_frozen hv 1)]
    rfl
  have hlen : (ivals xs ++ [u]).length = n + 1 := by simp [ivals_len, hl]
  have hdl : ((ivals xs).drop k).length = n - k := by rw [List.length_drop, ivals_len, hl]
  have hcell : ∀ j, j < n + 1 → w.cell? ⟨g, j, none⟩ = (ivals xs ++ [u])[j]? := fun j hj => hm.cellAt j (by omega)
  have hsome : ∀ j, j < n + 1 → (w.cell? ⟨g, j, none⟩).isSome = true := fun j hj => by rw [hcell j hj, List.getElem?_eq_getElem (by omega)]; rfl
  have hfz : ∀ j, w.frozen? ⟨g, j, none⟩ = false := fun j => hm.frozenAt j
  have hcp1 : ∀ ty dc sc, (Builtin.copy_ #[22, 22] ty #[.slice (some ⟨g, k + 1, none⟩) (n - k) dc, .slice (some ⟨g, k, none⟩) (n + 1 - k) sc]).run Try.prog w.drew = .ok (goInt ((ivals xs).drop k).length) (w.drew.setCells g (k + 1) ((ivals xs).drop k)) := fun ty dc sc =>
    run_copy_cells w.drew _ _ ty 2 g (k + 1) (n - k) dc ⟨g, k, none⟩ (n + 1 - k) sc _ Try.underlying22 info1 (by rw [hdl]; simp only [Nat.min_def]; split <;> omega)
      (fun j v hj => by
        rw [Addr.add_lit]
        have hjl : j < n - k := by rw [← hdl]; exact (List.getElem?_eq_some_iff.1 hj).1
        refine (hcell (k + j) (by omega)).trans ?_
        rw [List.getElem?_append_left (by rw [ivals_len, hl]; omega), ← hj, List.getElem?_drop])
      (fun j hj => hsome _ (by rw [hdl] at hj; omega)) (fun j _ => hfz _) (fun v hv => ivals_one xs v (List.mem_of_mem_drop hv))
  obtain ⟨W1, hW1⟩ : ∃ W1, w.drew.setCells g (k + 1) ((ivals xs).drop k) = W1 := ⟨_, rfl⟩
  have hp1 := own_put ((ivals xs).drop k) w.drew _ (k + 1) hm.drew
  rw [hW1] at hp1 hcp1
  obtain ⟨hm1, hG1⟩ := hp1
  have hput1 : putAt (ivals xs ++ [u]) (k + 1) ((ivals xs).drop k) = (ivals xs ++ [u]).take (k + 1) ++ (ivals xs).drop k := by
    rw [putAt_eq _ _ _ (by rw [hlen, hdl]; omega), show (ivals xs ++ [u]).drop (k + 1 + ((ivals xs).drop k).length) = [] from List.drop_of_length_le (by rw [hlen, hdl]; omega), List.append_nil]
  have hvW : W1.heap[vb]? = some (.cells #[.int .i64 t] 2 (0, 0)) := blk_grown (show w.drew.heap[vb]? = _ from hv) hG1 hgv
  have hlen1 : (putAt (ivals xs ++ [u]) (k + 1) ((ivals xs).drop k)).length = n + 1 := by rw [hput1]; simp [ivals_len, hl]; omega
  have hcp2 : ∀ ty dc, (Builtin.copy_ #[22, 22] ty #[.slice (some ⟨g, k, none⟩) (n + 1 - k) dc, .slice (some ⟨vb, 0, none⟩) 1 1]).run Try.prog W1 = .ok (goInt ([Value.int .i64 t]).length) (W1.setCells g k [.int .i64 t]) := fun ty dc =>
    run_copy_cells W1 _ _ ty 2 g k (n + 1 - k) dc ⟨vb, 0, none⟩ 1 1 [.int .i64 t] Try.underlying22 info1 (by simp only [Nat.min_def, List.length_singleton]; split <;> omega)
      (fun j v hj => by
        cases j with
        | zero => rw [Addr.add_lit]; exact (blk_cell hvW 0).trans (by simpa using hj)
        | succ j => simp at hj)
      (fun j hj => by
        have hj0 : j = 0 := by simpa using hj
        subst hj0
        rw [hm1.cellAt (k + 0) (by omega), List.getElem?_eq_getElem (by omega)]; rfl)
      (fun j _ => hm1.frozenAt _) (by intro v hv; simp at hv; subst hv; rfl)
  have hp2 := own_put [.int .i64 t] W1 _ k hm1
  obtain ⟨W2, hW2⟩ : ∃ W2, W1.setCells g k [.int .i64 t] = W2 := ⟨_, rfl⟩
  rw [hW2] at hp2 hcp2
  have hfin : putAt (putAt (ivals xs ++ [u]) (k + 1) ((ivals xs).drop k)) k [.int .i64 t] = ivals (insL xs k t) := by
    rw [putAt_eq _ _ _ (by rw [hlen1]; simp; omega), hput1, ivals_ins]
    have h1 : ((ivals xs ++ [u]).take (k + 1) ++ (ivals xs).drop k).take k = (ivals xs).take k := by
      rw [List.take_append_of_le_length (by simp [ivals_len, hl]; omega), List.take_take, Nat.min_eq_left (by omega), List.take_append_of_le_length (by rw [ivals_len, hl]; omega)]
    have h2 : ((ivals xs ++ [u]).take (k + 1) ++ (ivals xs).drop k).drop (k + 1) = (ivals xs).drop k := List.drop_left' (by simp [ivals_len, hl]; omega)
    rw [h1, List.length_singleton, h2]
  have Fin := Lib.hid (show InsR base (some ⟨g, 0, none⟩) n c xs k t w (.returned (.slice (some ⟨g, 0, none⟩) (n + 1) c)) W2 from ⟨_, _, rfl, by rw [← hfin]; exact hp2.1, World.grown_trans (grown_undrew hG1) hp2.2⟩)
  have HW1 := Lib.hid hW1; have HW2 := Lib.hid hW2
  clear hp2 hfin hm hm1 hG1 hput1 hlen1 hsome hcell hfz hsa hsb hkB hlen hdl ho hv hvW hl hW1 hW2 hg1 hg2 hne hgv
  have hw1 : IntKind.i64.wrap ((k : Int) + 1) = (k : Int) + 1 := by rw [IntKind.wrap_i64]; omega
  have hw2 : IntKind.i64.wrap ((n : Int) + 1) = (n : Int) + 1 := by rw [IntKind.wrap_i64]; omega
  have hz2 : ¬ ((k : Int) = (n : Int)) := by omega
  have hb1 : (0 : Int) ≤ (k : Int) + 1 := by omega
  have hin : k ≤ n := by omega
  have htn : ((k : Int) + 1).toNat = k + 1 := by omega
  have htn2 : ((n : Int) + 1).toNat = n + 1 := by omega
  have hb0 : (0 : Int) ≤ (n : Int) + 1 := by omega
  have hb2 : ¬ (c = k + 1) := by omega
  have hb3 : (k : Int) ≤ (n : Int) + 1 := by omega
  have hb4 : ¬ (c = k) := by omega
  have hb5 : ¬ ((c : Int) < (n : Int) + 1) := by omega
  have hb6 : (n : Int) + 1 ≤ (c : Int) := by omega
  have mixed : Try.prog.follows Departure.mixedOrders = true := by kernel_rfl
  go_enter Try.func27, Try.ntmps27
  go_wp2_with (simp only [hov])
  go_region_law_o (refine step_copy_runI rfl _ _ 22 22 rfl _ _ (by simp [Act.eval, Act.put]) (by simp [Act.eval, Act.put]) (hcp1 _ _ _) ?_)
  go_wp2_with (at_builtin; refine wpList_copy_runI _ rfl _ _ 22 22 rfl _ _ rfl rfl (hcp2 _ _) ?_)
  go_ret
  exact Fin.out
end Go.Proofs.Ytemnhnhpaaoccaa
