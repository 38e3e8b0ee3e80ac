/- slices.Insert of one number where there is no room; slices.Delete of one. -/
import Derived.Test.YtemnhnhpaaoccaaPermC
namespace Go.Proofs.Ytemnhnhpaaoccaa
open Go.RowKit

set_option maxHeartbeats 4000000 in
set_option maxRecDepth 100000 in
theorem insert_grow (w : World) (base : Nat) (A : Option Addr) (n c vb k : Nat) (xs : List Int) (t : Int) (hl : xs.length = n) (hn : n ≤ 1000) (hk : k < n) (hnc : n ≤ c) (hc : c < n + 1) (ho : w.ownsRow base 2 1 (.slice A n c) n (ivals xs)) (hv : w.heap[vb]? = some (.cells #[.int .i64 t] 2 (0, 0))) (hbase : base ≤ w.heap.size) :
    Calls Try.prog 27 #[.slice A n c, .int .i64 (k : Int), .slice (some ⟨vb, 0, none⟩) 1 1] w (InsR base A n c xs k t w) := by
  obtain ⟨g, rfl, hg1, hg2⟩ := own_some ho (by omega)
  obtain ⟨i0, hi0, hz0, hzs, hzb⟩ := info_parts info_i64
  have hdl : ((ivals xs).drop k).length = n - k := by rw [List.length_drop, ivals_len, hl]
  have htl : ((ivals xs).take k).length = k := by rw [List.length_take, ivals_len, hl]; omega
  have hcell : ∀ j, j < n → w.cell? ⟨g, j, none⟩ = (ivals xs)[j]? := fun j hj => ho.cellAt j (by omega)
  have hold : (Builtin.firstCells i0.size k (.slice (some ⟨g, 0, none⟩) k c)).run Try.prog w.drew = .ok ((ivals xs).take k).toArray w.drew := by
    rw [hzs]
    exact run_firstCells_some w.drew 1 k ⟨g, 0, none⟩ k c ((ivals xs).take k) (by rw [htl]; omega) (fun j v hj => by
      rw [Addr.add_lit, Nat.zero_add]
      have hjk : j < k := by rw [← htl]; exact (List.getElem?_eq_some_iff.1 hj).1
      rw [List.getElem?_take, if_pos hjk] at hj
      exact (hcell j (by omega)).trans hj)
  obtain ⟨G, hG⟩ : ∃ G, grownCap w (n + 1) c 2 = G := ⟨_, rfl⟩
  obtain ⟨ROW, hROW⟩ : ∃ ROW : Array Value, ((ivals xs).take k).toArray ++ Builtin.zeroCells (Value.int .i64 0).cells (n + 1 - k) ++ Builtin.zeroCells (Value.int .i64 0).cells (G - (n + 1)) = ROW := ⟨_, rfl⟩
  have hGn : n + 1 ≤ G := by rw [← hG]; exact grownCap_ge w _ _ _
  have hGm : G ≤ maxLen := by rw [← hG]; exact grownCap_le_maxLen w (n + 1) c 2 (by unfold maxLen; omega)
  have hG63 : G ≤ 9223372036854775807 := by unfold maxLen at hGm; omega
  have hRs : ROW.size = G := by
    rw [← hROW]
    simp [Builtin.zeroCells, Value.cells, ivals_len, hl]
    omega
  obtain ⟨W1, hW1⟩ : ∃ W1, w.drew.alloc (.cells ROW 2) = W1 := ⟨_, rfl⟩
  have hkk : (n : Int) + 1 - (k : Int) = ((n + 1 - k : Nat) : Int) := by omega
  have hrz : ∀ ty, (Builtin.append_ #[22, 3] ty #[.slice (some ⟨g, 0, none⟩) k c, .int .i64 ((n : Int) + 1 - (k : Int))]).run Try.prog w = .ok (.slice (some ⟨w.heap.size, 0, none⟩) (n + 1) G) W1 := fun ty => by
    have h := Lib.run_append_grow_zeros w 22 3 ty 2 i0 _ .i64 .i64 Try.underlying22 Try.underlying3 hi0 hz0 (some ⟨g, 0, none⟩) k c ((ivals xs).take k) hold (n + 1 - k) (by omega) (by omega) (by omega) (by omega) (by rw [hzb]; omega) (by rw [hzb, show k + (n + 1 - k) = n + 1 by omega]; exact growslice_fits hc (by omega))
    rw [show k + (n + 1 - k) = n + 1 by omega, hG, hROW, hW1] at h
    rw [hkk]
    exact h
  have hO : W1.ownsRow base 2 1 (.slice (some ⟨w.heap.size, 0, none⟩) (n + 1) G) (n + 1) (ROW.toList.take (n + 1)) := by
    have h := own_made w.drew ROW.toList 2 1 G (by rw [Nat.mul_one]; simpa using hRs) hGm (base := base) hbase
    rw [show ROW.toList.toArray = ROW by simp, hW1] at h
    exact own_sub h hGn
  have hRl : (ROW.toList.take (n + 1)).length = n + 1 := by rw [List.length_take]; simp [hRs]; omega
  have hRt : (ROW.toList.take (n + 1)).take k = (ivals xs).take k := by
    rw [List.take_take, Nat.min_eq_left (by omega), ← hROW]
    simp only [Array.toList_append, List.append_assoc]
    exact List.take_left' htl
  have hE1 : Ext w W1 := by rw [← hW1]; exact ((Ext.refl w).drew).alloc _
  have hv1 := blk_ext hv hE1
  have hcp1 : ∀ ty dc, (Builtin.copy_ #[22, 22] ty #[.slice (some ⟨w.heap.size, k, none⟩) (n + 1 - k) dc, .slice (some ⟨vb, 0, none⟩) 1 1]).run Try.prog W1 = .ok (goInt ([Value.int .i64 t]).length) (W1.setCells w.heap.size k [.int .i64 t]) := fun ty dc =>
    run_copy_cells W1 _ _ ty 2 w.heap.size k (n + 1 - k) dc ⟨vb, 0, none⟩ 1 1 [.int .i64 t] Try.underlying22 info1 (by simp only [Nat.min_def, List.length_singleton]; split <;> omega)
      (fun j v hj => by
        cases j with
        | zero => rw [Addr.add_lit]; exact (blk_cell hv1 0).trans (by simpa using hj)
        | succ j => simp at hj)
      (fun j hj => by
        have hj0 : j = 0 := by simpa using hj
        subst hj0
        rw [hO.cellAt (k + 0) (by omega), List.getElem?_eq_getElem (by omega)]; rfl)
      (fun j _ => hO.frozenAt _) (by intro v hv; simp at hv; subst hv; rfl)
  have hp1 := own_put [.int .i64 t] W1 _ k hO
  obtain ⟨W2, hW2⟩ : ∃ W2, W1.setCells w.heap.size k [.int .i64 t] = W2 := ⟨_, rfl⟩
  rw [hW2] at hp1 hcp1
  obtain ⟨hm1, hG1⟩ := hp1
  have hput1 : putAt (ROW.toList.take (n + 1)) k [.int .i64 t] = (ivals xs).take k ++ ([.int .i64 t] ++ (ROW.toList.take (n + 1)).drop (k + 1)) := by
    rw [putAt_eq _ _ _ (by rw [hRl]; simp; omega), hRt]
    rfl
  have hlen1 : (putAt (ROW.toList.take (n + 1)) k [.int .i64 t]).length = n + 1 := by rw [hput1]; simp [ivals_len, hl, hRl]; omega
  have hgN : g ≠ w.heap.size := by omega
  have hsrc : ∀ j, j < n → W2.cell? ⟨g, j, none⟩ = (ivals xs)[j]? := fun j hj => by
    have hc1 : w.cell? ⟨g, j, none⟩ = some ((ivals xs)[j]'(by rw [ivals_len, hl]; exact hj)) := by rw [hcell j hj, List.getElem?_eq_getElem]
    have hc2 := ext_cell hE1 hc1
    rw [List.getElem?_eq_getElem (by rw [ivals_len, hl]; exact hj)]
    exact (World.cell?_of_block (hG1.block g (World.block_lt_of_cell? W1 ⟨g, j, none⟩ hc2) (fun q => hgN (by injection q)))).trans hc2
  have hcp2 : ∀ ty dc sc, (Builtin.copy_ #[22, 22] ty #[.slice (some ⟨w.heap.size, k + 1, none⟩) (n - k) dc, .slice (some ⟨g, k, none⟩) (n - k) sc]).run Try.prog W2.drew = .ok (goInt ((ivals xs).drop k).length) (W2.drew.setCells w.heap.size (k + 1) ((ivals xs).drop k)) := fun ty dc sc =>
    run_copy_cells W2.drew _ _ ty 2 w.heap.size (k + 1) (n - k) dc ⟨g, k, none⟩ (n - k) sc _ Try.underlying22 info1 (by rw [hdl]; simp only [Nat.min_def]; split <;> omega)
      (fun j v hj => by
        rw [Addr.add_lit]
        have hjl : j < n - k := by rw [← hdl]; exact (List.getElem?_eq_some_iff.1 hj).1
        refine (hsrc (k + j) (by omega)).trans ?_
        rw [← hj, List.getElem?_drop])
      (fun j hj => by
        rw [hdl] at hj
        show (W2.cell? _).isSome = true
        rw [hm1.cellAt _ (by omega), List.getElem?_eq_getElem (by omega)]; rfl)
      (fun j _ => hm1.frozenAt _) (fun v hv => ivals_one xs v (List.mem_of_mem_drop hv))
  have hp2 := own_put ((ivals xs).drop k) W2.drew _ (k + 1) hm1.drew
  obtain ⟨W3, hW3⟩ : ∃ W3, W2.drew.setCells w.heap.size (k + 1) ((ivals xs).drop k) = W3 := ⟨_, rfl⟩
  rw [hW3] at hp2 hcp2
  have hfin : putAt (putAt (ROW.toList.take (n + 1)) k [.int .i64 t]) (k + 1) ((ivals xs).drop k) = ivals (insL xs k t) := by
    rw [putAt_eq _ _ _ (by rw [hlen1, hdl]; omega), ivals_ins]
    rw [show (putAt (ROW.toList.take (n + 1)) k [.int .i64 t]).drop (k + 1 + ((ivals xs).drop k).length) = [] from List.drop_of_length_le (by rw [hlen1, hdl]; omega), List.append_nil, hput1]
    have h1 : ((ivals xs).take k ++ (([.int .i64 t] : List Value) ++ (ROW.toList.take (n + 1)).drop (k + 1))).take (k + 1) = (ivals xs).take k ++ [.int .i64 t] := by
      rw [← List.append_assoc]
      exact List.take_left' (by rw [List.length_append, htl]; rfl)
    rw [h1, List.append_assoc]
  have Fin := Lib.hid (show InsR base (some ⟨g, 0, none⟩) n c xs k t w (.returned (.slice (some ⟨w.heap.size, 0, none⟩) (n + 1) G)) W3 from ⟨_, _, rfl, by rw [← hfin]; exact hp2.1, grown_new (grown_drew (grown_new (grown_none hE1 _) hG1 (Nat.le_refl _))) hp2.2 (Nat.le_refl _)⟩)
  clear hp2 hfin hm1 hG1 hput1 hlen1 hsrc hO hRl hRt hE1 hv1 hRs hROW hG hkk hold hcell hdl htl ho hv hl hW1 hW2 hW3 hg1 hGm hi0 hz0 hzs hzb
  have hw1 : IntKind.i64.wrap ((k : Int) + 1) = (k : Int) + 1 := by rw [IntKind.wrap_i64]; omega
  have hw2 : IntKind.i64.wrap ((n : Int) + 1) = (n : Int) + 1 := by rw [IntKind.wrap_i64]; omega
  have hw3 : IntKind.i64.wrap ((n : Int) + 1 - (k : Int)) = (n : Int) + 1 - (k : Int) := by rw [IntKind.wrap_i64]; omega
  have hz2 : ¬ ((k : Int) = (n : Int)) := by omega
  have hb1 : (0 : Int) ≤ (k : Int) + 1 := by omega
  have hin : k ≤ n := by omega
  have htn : ((k : Int) + 1).toNat = k + 1 := by omega
  have hb2 : ¬ (G = k + 1) := by omega
  have hb3 : (k : Int) ≤ (n : Int) + 1 := by omega
  have hb4 : ¬ (c = k) := by omega
  have hb7 : ¬ (G = k) := by omega
  have hb5 : (c : Int) < (n : Int) + 1 := by omega
  have hb6 : (k : Int) ≤ (c : Int) := by omega
  have mixed : Try.prog.follows Departure.mixedOrders = true := by kernel_rfl
  go_enter Try.func27, Try.ntmps27
  go_wp2_with (first
    | (at_builtin; refine Lib.wpList_append_run _ rfl _ _ _ _ rfl _ _ rfl rfl _ _ (hrz _) ?_)
    | (at_builtin; refine wpList_copy_runI _ rfl _ _ 22 22 rfl _ _ rfl rfl (hcp1 _ _) ?_))
  go_region_law_o (refine step_copy_runI rfl _ _ 22 22 rfl _ _ (by simp [Act.eval, Act.put]) (by simp [Act.eval, Act.put]) (hcp2 _ _ _) ?_)
  go_wp2
  go_ret
  exact Fin.out
/-- slices.Insert of one number -/
theorem insert_any (w : World) (base : Nat) (A : Option Addr) (n c vb k : Nat) (xs : List Int) (t : Int) (hl : xs.length = n) (hn : n ≤ 1000) (hk : k ≤ n) (ho : w.ownsRow base 2 1 (.slice A n c) n (ivals xs)) (hv : w.heap[vb]? = some (.cells #[.int .i64 t] 2 (0, 0))) (hne : (Value.slice A n c).ownBlock ≠ some vb) (hbase : base ≤ w.heap.size) :
    Calls Try.prog 27 #[.slice A n c, .int .i64 (k : Int), .slice (some ⟨vb, 0, none⟩) 1 1] w (InsR base A n c xs k t w) := by
  have hnc := own_cap ho
  by_cases h1 : k = n
  · subst h1
    exact insert_end w base A k c vb xs t hl hn ho hv hbase
  · by_cases h2 : n < c
    · have hcm : c ≤ 9223372036854775807 := by
        rcases ho.2 with ⟨h3, h4⟩ | ⟨g, cap, cur, h3, _, _, _, h4, _⟩
        · omega
        · injection h3 with _ _ h3
          unfold maxLen at h4
          omega
      exact insert_room w base A n c vb k xs t hl hn (by omega) h2 hcm ho hv hne
    · exact insert_grow w base A n c vb k xs t hl hn (by omega) hnc (by omega) ho hv hbase
end Go.Proofs.Ytemnhnhpaaoccaa
