/- slices.Clone, Insert of one, Delete of one, of a struct (written by gen_ins.py). -/
import Derived.Test.YtlgggeeflomelaaMchW
import Derived.Test.YtlgggeeflomelaaRowS
import Derived.Shelf.Spec.SlicesInsertGrow
import Derived.Shelf.Slices.Delete
import Derived.Deep.DeepCutAuto
namespace Go.Proofs.Ytlgggeeflomelaa
open Go.RowKit

theorem sh_info : (Try.prog.info? 102).map (fun i => (i.zero, i.size, i.bytes)) = some (some (.agg #[.slice none 0 0, .int .i64 0]), 2, 32) := by kernel_rfl
theorem sh_size : ∀ u : World, (sizeOf 102).run Try.prog u = .ok 2 u := fun _ => by kernel_rfl
theorem sh_info1 : (Try.prog.info? 102).map (·.size) = some 2 := by kernel_rfl
theorem sh_zero : ∀ w : World, (zeroValue 102).run Try.prog w = .ok (.agg #[.slice none 0 0, .int .i64 0]) w := fun _ => by kernel_rfl
theorem sh_zcells (n : Nat) : ((Builtin.zeroCells (Value.cells (.agg #[.slice none 0 0, .int .i64 0])) n).toList).length = n * 2 ∧ ∀ v ∈ (Builtin.zeroCells (Value.cells (.agg #[.slice none 0 0, .int .i64 0])) n).toList, v.oneCell' = true := by
  refine ⟨by rw [Array.length_toList, size_zeroCells]; rfl, fun v hv => ?_⟩
  simp only [Builtin.zeroCells, Array.toList_map, List.mem_map] at hv
  obtain ⟨i, _, rfl⟩ := hv
  have hi : i % 2 < 2 := Nat.mod_lt _ (by omega)
  show ((.agg #[.slice none 0 0, .int .i64 0] : Value).cells[i % 2]!).oneCell' = true
  have h9 : ∀ j, j < 2 → ((.agg #[.slice none 0 0, .int .i64 0] : Value).cells[j]!).oneCell' = true := by decide
  exact h9 _ hi
/-- append onto a row of one's own -/
theorem sh_app {ops : Array Oper} {rest : List Oper} {o : Oper} {a : Act} {Q : Exit → Act → World → Prop} (w : World) (hgd : o.guard = none) (s x : Operand)
    (ho : o.op = .call { callee := .builtin .append, args := #[s, x], argTypes := #[90, 90] })
    (base : Nat) {B : Option Addr} {n cb : Nat} {xs : List Value} (hs : a.eval s = .slice B n cb) (hown : w.ownsRow base 102 2 (.slice B n cb) n xs)
    {A : Option Addr} {m c : Nat} {news : List Value} (hx : a.eval x = .slice A m c) (hl : news.length = m * 2) (hr : Rd w A news) (h1 : ∀ u ∈ news, u.oneCell' = true) (hb : n + m ≤ 1000000) (hbase : base ≤ w.heap.size)
    (h : ∀ B' cb' w', w'.ownsRow base 102 2 (.slice B' (n + m) cb') (n + m) (xs ++ news) → w.grownBy w' (Value.slice B n cb).ownBlock →
      ((Value.slice B' (n + m) cb').ownBlock = (Value.slice B n cb).ownBlock ∨ (Value.slice B' (n + m) cb').ownBlock = some w.heap.size) → wpList Try.prog ops Q rest (a.put o.dst (.slice B' (n + m) cb')) w') :
    wpList Try.prog ops Q (o :: rest) a w := by
  obtain ⟨i0, hi, hz0, hz1, hz2⟩ := info_parts sh_info
  exact wpList_append_rd w hgd s x 90 ho base 102 Try.underlying90 hi hz0 hz1 hz2 rfl (by decide) hs hown hx hl hr h1 (by unfold maxLen; omega) (by omega) hbase h
theorem sh_nilq (w : World) (A : Option Addr) (n c n' c' : Nat) : (binOp .eql 90 (.slice A n c) (.slice none n' c')).run Try.prog w = .ok (.bool A.isNone) w := Lib.run_eql_slice_nil w _ _ A n c n' c' Try.underlying90
/-- a copy in new memory -/
def sh_CloneR (n : Nat) (xs : List Value) (w : World) (e : Ending) (w' : World) : Prop := ∃ B d, e = .returned (.slice B n d) ∧ w'.ownsRow w.heap.size 102 2 (.slice B n d) n xs ∧ Ext w w'
set_option maxHeartbeats 1000000 in
theorem sh_clone (w : World) (A : Option Addr) (n c : Nat) (xs : List Value) (hl : xs.length = n * 2) (hn : n ≤ 100000) (hr : Rd w A xs) (h1 : ∀ u ∈ xs, u.oneCell' = true) :
    Calls Try.prog 108 #[.slice A n c] w (sh_CloneR n xs w) := by
  have q := sh_nilq
  have Hl := Lib.hid hl; have Hr := Lib.hid hr; have H1 := Lib.hid h1
  cases A with
  | none =>
    have hx : xs = [] := by
      rcases Classical.em (xs = []) with h | h
      · exact h
      · obtain ⟨b, off, e, _⟩ := hr h; cases e
    have hn0 : n = 0 := by rw [hx] at hl; simp at hl; omega
    subst hn0 hx
    clear hl hr h1
    go_enter Try.func108, Try.ntmps108
    go_wp2_with fail
    go_ret
    exact ⟨none, 0, rfl, World.ownsRow_nil _ _ _ _, Ext.refl _⟩
  | some a =>
    clear hl hr h1
    have h0 : (w.alloc (.cells #[] 102)).ownsRow w.heap.size 102 2 (.slice (some ⟨w.heap.size, 0, none⟩) 0 0) 0 [] := own_made w [] 102 2 0 rfl (Nat.zero_le _) (Nat.le_refl _)
    go_enter Try.func108, Try.ntmps108
    go_wp2_with (at_builtin; refine sh_app _ rfl (.tmp 5) (.tmp 6) rfl w.heap.size rfl h0 rfl Hl.out (Hr.out.alloc _) H1.out (by omega) (by simp) ?_; intro A' c' w1 hown hgrow _; simp only [Nat.zero_add, List.nil_append] at hown)
    go_ret
    exact ⟨A', c', rfl, hown, ((Ext.refl w).alloc _).grown hgrow (by simp [Value.ownBlock])⟩
def sh_InsR (base : Nat) (A : Option Addr) (n c : Nat) (xs : List Value) (k : Nat) (nv : List Value) (w : World) (e : Ending) (w' : World) : Prop :=
  ∃ A' c', e = .returned (.slice A' (n + 1) c') ∧ w'.ownsRow base 102 2 (.slice A' (n + 1) c') (n + 1) (insF 2 xs k nv) ∧ w.grownBy w' (Value.slice A n c).ownBlock
theorem sh_one {w : World} {vb : Nat} {nv : List Value} (h : w.heap[vb]? = some (.cells nv.toArray 102 (0, 0))) : Rd w (some ⟨vb, 0, none⟩) nv := fun _ => ⟨vb, 0, rfl, fun j u hu => by
  rw [Nat.zero_add, blk_cell h j, List.getElem?_toArray]; exact hu⟩
set_option maxHeartbeats 4000000 in
theorem sh_ins_end (w : World) (base : Nat) (A : Option Addr) (n c vb : Nat) (xs nv : List Value) (hnl : nv.length = 2) (hn1 : ∀ u ∈ nv, u.oneCell' = true) (hn : n ≤ 100000) (ho : w.ownsRow base 102 2 (.slice A n c) n xs) (hv : w.heap[vb]? = some (.cells nv.toArray 102 (0, 0))) (hbase : base ≤ w.heap.size) :
    Calls Try.prog 110 #[.slice A n c, .int .i64 (n : Int), .slice (some ⟨vb, 0, none⟩) 1 1] w (sh_InsR base A n c xs n nv w) := by
  have hnc := own_cap ho
  have Ho := Lib.hid ho; have R := Lib.hid (sh_one hv); have Hl := Lib.hid ho.1; have Hn1 := Lib.hid hn1; have Hnl := Lib.hid hnl
  clear ho hv hn1 hnl
  obtain ⟨A0, hsl, _, _⟩ := slice_from_s (s := 2) Try.underlying90 sh_size (A := A) (n := n) (c := c) (m := 0) (d := c - n) n (ki := (n : Int)) rfl hnc (by omega) (by omega)
  go_enter Try.func110, Try.ntmps110
  go_wp2_with (at_builtin; refine sh_app _ rfl (.tmp 23) (.tmp 24) rfl base rfl Ho.out rfl (m := 1) (news := nv) (by rw [Nat.one_mul]; exact Hnl.out) R.out Hn1.out (by omega) hbase ?_; intro A' c' w1 hown hgrow _)
  go_ret
  refine ⟨A', c', rfl, ?_, hgrow⟩
  have e : insF 2 xs n nv = xs ++ nv := by
    unfold insF
    rw [List.take_of_length_le (by rw [Hl.out]; exact Nat.le_refl _), List.drop_of_length_le (by rw [Hl.out]; exact Nat.le_refl _), List.append_nil]
  rw [e]
  exact hown
set_option maxHeartbeats 4000000 in
set_option maxRecDepth 100000 in
theorem sh_ins_room (w : World) (base : Nat) (A : Option Addr) (n c vb k : Nat) (xs nv : List Value) (hx1 : ∀ u ∈ xs, u.oneCell' = true) (hnl : nv.length = 2) (hn1 : ∀ u ∈ nv, u.oneCell' = true) (hn : n ≤ 100000) (hk : k < n) (hc : n < c) (hcm : c ≤ 9223372036854775807) (ho : w.ownsRow base 102 2 (.slice A n c) n xs) (hv : w.heap[vb]? = some (.cells nv.toArray 102 (0, 0))) (hne : (Value.slice A n c).ownBlock ≠ some vb) :
    Calls Try.prog 110 #[.slice A n c, .int .i64 (k : Int), .slice (some ⟨vb, 0, none⟩) 1 1] w (sh_InsR base A n c xs k nv w) := by
  have hl : xs.length = n * 2 := ho.1
  obtain ⟨g, rfl, hg1, hg2⟩ := own_some_s ho (by omega)
  have hgv : vb ≠ g := fun e => hne (by simp [Value.ownBlock, e])
  obtain ⟨us, hus, hm⟩ := own_more_s ho hc
  have hshg : ∃ k', w.shape? g = some (102, k') ∧ k' ≠ 0 := by
    rcases ho.2 with ⟨h1, _⟩ | ⟨g', cap, cur, h1, _, hg, _, _, hcs, _⟩
    · injection h1 with h1; cases h1
    · injection h1 with h1 h3 h4
      injection h1 with h1
      injection h1 with h1
      subst h1
      refine ⟨cur.size, ?_, by omega⟩
      simp [World.shape?, hg]
  obtain ⟨kB, hsb, hkB⟩ := hshg
  have hsa : w.shape? vb = some (102, 2) := by simp [World.shape?, hv, hnl]
  have hov : ∀ lb cb, (callFunc 114 #[.slice (some ⟨vb, 0, none⟩) 1 1, .slice (some ⟨g, (k + 1) * 2, none⟩) lb cb]).run Try.prog w = .ok (.value (.bool false)) w := fun lb cb => by
    rw [run_callFunc_extern Try.func114 (by kernel_rfl) (by kernel_rfl) (by kernel_rfl) (e := Extern.SlicesOverlaps.overlaps #[90, 90] #[4]) (by kernel_rfl),
      Lib.run_overlaps_apart w 90 4 102 Try.underlying90 2 sh_size ⟨vb, 0, none⟩ ⟨g, (k + 1) * 2, none⟩ 1 1 lb cb hgv 102 102 2 kB hsa hsb hkB (blk_frozen hv 0) (blk_frozen hv 2)]
    rfl
  have hlen : (xs ++ us).length = (n + 1) * 2 := by rw [List.length_append, hl, hus]; omega
  have hdl : (xs.drop (k * 2)).length = (n - k) * 2 := by rw [List.length_drop, hl]; omega
  have hcell : ∀ j, j < (n + 1) * 2 → w.cell? ⟨g, j, none⟩ = (xs ++ us)[j]? := fun j hj => hm.cellAt j hj
  have hsome : ∀ j, j < (n + 1) * 2 → (w.cell? ⟨g, j, none⟩).isSome = true := fun j hj => by rw [hcell j hj, List.getElem?_eq_getElem (by omega)]; rfl
  have hfz : ∀ j, w.frozen? ⟨g, j, none⟩ = false := fun j => hm.frozenAt j
  have hcp1 : ∀ ty dc sc, (Builtin.copy_ #[90, 90] ty #[.slice (some ⟨g, (k + 1) * 2, none⟩) (n - k) dc, .slice (some ⟨g, k * 2, none⟩) (n + 1 - k) sc]).run Try.prog w.drew = .ok (goInt ((n - k : Nat) : Int)) (w.drew.setCells g ((k + 1) * 2) (xs.drop (k * 2))) := fun ty dc sc =>
    run_copy_cells_s w.drew _ _ ty 102 2 g ((k + 1) * 2) (n - k) dc ⟨g, k * 2, none⟩ (n + 1 - k) sc (n - k) _ Try.underlying90 sh_info1 (by simp only [Nat.min_def]; split <;> omega) hdl
      (fun j v hj => by
        rw [Addr.add_lit]
        have hjl : j < (n - k) * 2 := by rw [← hdl]; exact (List.getElem?_eq_some_iff.1 hj).1
        refine (hcell (k * 2 + j) (by omega)).trans ?_
        rw [List.getElem?_append_left (by rw [hl]; omega), ← hj, List.getElem?_drop])
      (fun j hj => hsome _ (by rw [hdl] at hj; omega)) (fun j _ => hfz _) (fun v hv => hx1 v (List.mem_of_mem_drop hv))
  obtain ⟨W1, hW1⟩ : ∃ W1, w.drew.setCells g ((k + 1) * 2) (xs.drop (k * 2)) = W1 := ⟨_, rfl⟩
  have hp1 := own_put_s (xs.drop (k * 2)) w.drew _ ((k + 1) * 2) hm.drew
  rw [hW1] at hp1 hcp1
  obtain ⟨hm1, hG1⟩ := hp1
  have hput1 : putAt (xs ++ us) ((k + 1) * 2) (xs.drop (k * 2)) = (xs ++ us).take ((k + 1) * 2) ++ xs.drop (k * 2) := by
    rw [putAt_eq _ _ _ (by rw [hlen, hdl]; omega), show (xs ++ us).drop ((k + 1) * 2 + (xs.drop (k * 2)).length) = [] from List.drop_of_length_le (by rw [hlen, hdl]; omega), List.append_nil]
  have hvW : W1.heap[vb]? = some (.cells nv.toArray 102 (0, 0)) := blk_grown (show w.drew.heap[vb]? = _ from hv) hG1 hgv
  have hlen1 : (putAt (xs ++ us) ((k + 1) * 2) (xs.drop (k * 2))).length = (n + 1) * 2 := by rw [hput1, List.length_append, List.length_take, hlen, hdl]; omega
  have hcp2 : ∀ ty dc, (Builtin.copy_ #[90, 90] ty #[.slice (some ⟨g, k * 2, none⟩) (n + 1 - k) dc, .slice (some ⟨vb, 0, none⟩) 1 1]).run Try.prog W1 = .ok (goInt 1) (W1.setCells g (k * 2) nv) := fun ty dc =>
    run_copy_cells_s W1 _ _ ty 102 2 g (k * 2) (n + 1 - k) dc ⟨vb, 0, none⟩ 1 1 1 nv Try.underlying90 sh_info1 (by simp only [Nat.min_def]; split <;> omega) (by rw [hnl])
      (fun j v hj => by
        rw [Addr.add_lit, Nat.zero_add]
        exact (blk_cell hvW j).trans (by rw [List.getElem?_toArray]; exact hj))
      (fun j hj => by
        rw [hnl] at hj
        rw [hm1.cellAt (k * 2 + j) (by omega), List.getElem?_eq_getElem (by omega)]; rfl)
      (fun j _ => hm1.frozenAt _) hn1
  have hp2 := own_put_s nv W1 _ (k * 2) hm1
  obtain ⟨W2, hW2⟩ : ∃ W2, W1.setCells g (k * 2) nv = W2 := ⟨_, rfl⟩
  rw [hW2] at hp2 hcp2
  have hfin : putAt (putAt (xs ++ us) ((k + 1) * 2) (xs.drop (k * 2))) (k * 2) nv = insF 2 xs k nv := by
    rw [putAt_eq _ _ _ (by rw [hlen1, hnl]; omega), hput1]
    unfold insF
    have h1 : ((xs ++ us).take ((k + 1) * 2) ++ xs.drop (k * 2)).take (k * 2) = xs.take (k * 2) := by
      rw [List.take_append_of_le_length (by rw [List.length_take, hlen]; omega), List.take_take, Nat.min_eq_left (by omega), List.take_append_of_le_length (by rw [hl]; omega)]
    have h2 : ((xs ++ us).take ((k + 1) * 2) ++ xs.drop (k * 2)).drop (k * 2 + nv.length) = xs.drop (k * 2) := List.drop_left' (by rw [List.length_take, hlen, hnl]; omega)
    rw [h1, h2]
  have Fin := Lib.hid (show sh_InsR base (some ⟨g, 0, none⟩) n c xs k nv w (.returned (.slice (some ⟨g, 0, none⟩) (n + 1) c)) W2 from ⟨_, _, rfl, by rw [← hfin]; exact hp2.1, World.grown_trans (grown_undrew hG1) hp2.2⟩)
  have HW1 := Lib.hid hW1; have HW2 := Lib.hid hW2
  clear hp2 hfin hm hm1 hG1 hput1 hlen1 hsome hcell hfz hsa hsb hkB hlen hdl ho hv hvW hl hW1 hW2 hg1 hg2 hne hgv hx1 hn1
  have hw1 : IntKind.i64.wrap ((k : Int) + 1) = (k : Int) + 1 := by rw [IntKind.wrap_i64]; omega
  have hw2 : IntKind.i64.wrap ((n : Int) + 1) = (n : Int) + 1 := by rw [IntKind.wrap_i64]; omega
  have hz2 : ¬ ((k : Int) = (n : Int)) := by omega
  have hb1 : (0 : Int) ≤ (k : Int) + 1 := by omega
  have hin : k ≤ n := by omega
  have htn : ((k : Int) + 1).toNat = k + 1 := by omega
  have htn2 : ((n : Int) + 1).toNat = n + 1 := by omega
  have hb0 : (0 : Int) ≤ (n : Int) + 1 := by omega
  have hb2 : ¬ (c = k + 1) := by omega
  have hb3 : (k : Int) ≤ (n : Int) + 1 := by omega
  have hb4 : ¬ (c = k) := by omega
  have hb5 : ¬ ((c : Int) < (n : Int) + 1) := by omega
  have hb6 : (n : Int) + 1 ≤ (c : Int) := by omega
  have mixed : Try.prog.follows Departure.mixedOrders = true := by kernel_rfl
  have hsz := sh_size
  go_enter Try.func110, Try.ntmps110
  go_wp2_with (simp only [hov])
  go_region_law_o (refine step_copy_runI rfl _ _ 90 90 rfl _ _ (by simp [Act.eval, Act.put]) (by simp [Act.eval, Act.put]) (hcp1 _ _ _) ?_)
  go_wp2_with (at_builtin; refine wpList_copy_runI _ rfl _ _ 90 90 rfl _ _ rfl rfl (hcp2 _ _) ?_)
  go_ret
  exact Fin.out
set_option maxHeartbeats 4000000 in
set_option maxRecDepth 100000 in
theorem sh_ins_grow (w : World) (base : Nat) (A : Option Addr) (n c vb k : Nat) (xs nv : List Value) (hx1 : ∀ u ∈ xs, u.oneCell' = true) (hnl : nv.length = 2) (hn1 : ∀ u ∈ nv, u.oneCell' = true) (hn : n ≤ 100000) (hk : k < n) (hnc : n ≤ c) (hc : c < n + 1) (ho : w.ownsRow base 102 2 (.slice A n c) n xs) (hv : w.heap[vb]? = some (.cells nv.toArray 102 (0, 0))) (hbase : base ≤ w.heap.size) :
    Calls Try.prog 110 #[.slice A n c, .int .i64 (k : Int), .slice (some ⟨vb, 0, none⟩) 1 1] w (sh_InsR base A n c xs k nv w) := by
  have hl : xs.length = n * 2 := ho.1
  obtain ⟨g, rfl, hg1, hg2⟩ := own_some_s ho (by omega)
  obtain ⟨i0, hi0, hz0, hzs, hzb⟩ := info_parts sh_info
  have hdl : (xs.drop (k * 2)).length = (n - k) * 2 := by rw [List.length_drop, hl]; omega
  have htl : (xs.take (k * 2)).length = k * 2 := by rw [List.length_take, hl]; omega
  have hcell : ∀ j, j < n * 2 → w.cell? ⟨g, j, none⟩ = xs[j]? := fun j hj => ho.cellAt j hj
  have hold : (Builtin.firstCells i0.size k (.slice (some ⟨g, 0, none⟩) k c)).run Try.prog w.drew = .ok (xs.take (k * 2)).toArray w.drew := by
    rw [hzs]
    exact run_firstCells_some w.drew 2 k ⟨g, 0, none⟩ k c (xs.take (k * 2)) (by rw [htl]) (fun j v hj => by
      rw [Addr.add_lit, Nat.zero_add]
      have hjk : j < k * 2 := by rw [← htl]; exact (List.getElem?_eq_some_iff.1 hj).1
      rw [List.getElem?_take, if_pos hjk] at hj
      exact (hcell j (by omega)).trans hj)
  obtain ⟨G, hG⟩ : ∃ G, grownCap w (n + 1) c 102 = G := ⟨_, rfl⟩
  obtain ⟨ROW, hROW⟩ : ∃ ROW : Array Value, (xs.take (k * 2)).toArray ++ Builtin.zeroCells (Value.cells (.agg #[.slice none 0 0, .int .i64 0])) (n + 1 - k) ++ Builtin.zeroCells (Value.cells (.agg #[.slice none 0 0, .int .i64 0])) (G - (n + 1)) = ROW := ⟨_, rfl⟩
  have hGn : n + 1 ≤ G := by rw [← hG]; exact grownCap_ge w _ _ _
  have hGm : G ≤ maxLen := by rw [← hG]; exact grownCap_le_maxLen w (n + 1) c 102 (by unfold maxLen; omega)
  have hG63 : G ≤ 9223372036854775807 := by unfold maxLen at hGm; omega
  have hzz : (Value.cells (.agg #[.slice none 0 0, .int .i64 0])).size = 2 := rfl
  have hRs : ROW.size = G * 2 := by
    rw [← hROW]
    simp only [Array.size_append, List.size_toArray, size_zeroCells, hzz, htl]
    omega
  obtain ⟨W1, hW1⟩ : ∃ W1, w.drew.alloc (.cells ROW 102) = W1 := ⟨_, rfl⟩
  have hkk : (n : Int) + 1 - (k : Int) = ((n + 1 - k : Nat) : Int) := by omega
  have hrz : ∀ ty, (Builtin.append_ #[90, 3] ty #[.slice (some ⟨g, 0, none⟩) k c, .int .i64 ((n : Int) + 1 - (k : Int))]).run Try.prog w = .ok (.slice (some ⟨w.heap.size, 0, none⟩) (n + 1) G) W1 := fun ty => by
    have h := Lib.run_append_grow_zeros w 90 3 ty 102 i0 _ .i64 .i64 Try.underlying90 Try.underlying3 hi0 hz0 (some ⟨g, 0, none⟩) k c (xs.take (k * 2)) hold (n + 1 - k) (by omega) (by omega) (by omega) (by omega) (by rw [hzb]; omega) (by rw [hzb, show k + (n + 1 - k) = n + 1 by omega]; exact growslice_fits hc (by omega))
    rw [show k + (n + 1 - k) = n + 1 by omega, hG, hROW, hW1] at h
    rw [hkk]
    exact h
  have hO : W1.ownsRow base 102 2 (.slice (some ⟨w.heap.size, 0, none⟩) (n + 1) G) (n + 1) (ROW.toList.take ((n + 1) * 2)) := by
    have h := own_made w.drew ROW.toList 102 2 G (by simpa using hRs) hGm (base := base) hbase
    rw [show ROW.toList.toArray = ROW by simp, hW1] at h
    exact own_sub_s h hGn
  have hRl : (ROW.toList.take ((n + 1) * 2)).length = (n + 1) * 2 := by rw [List.length_take, Array.length_toList, hRs]; omega
  have hRt : (ROW.toList.take ((n + 1) * 2)).take (k * 2) = xs.take (k * 2) := by
    rw [List.take_take, Nat.min_eq_left (by omega), ← hROW]
    simp only [Array.toList_append, List.append_assoc]
    exact List.take_left' htl
  have hE1 : Ext w W1 := by rw [← hW1]; exact ((Ext.refl w).drew).alloc _
  have hv1 := blk_ext hv hE1
  have hcp1 : ∀ ty dc, (Builtin.copy_ #[90, 90] ty #[.slice (some ⟨w.heap.size, k * 2, none⟩) (n + 1 - k) dc, .slice (some ⟨vb, 0, none⟩) 1 1]).run Try.prog W1 = .ok (goInt 1) (W1.setCells w.heap.size (k * 2) nv) := fun ty dc =>
    run_copy_cells_s W1 _ _ ty 102 2 w.heap.size (k * 2) (n + 1 - k) dc ⟨vb, 0, none⟩ 1 1 1 nv Try.underlying90 sh_info1 (by simp only [Nat.min_def]; split <;> omega) (by rw [hnl])
      (fun j v hj => by
        rw [Addr.add_lit, Nat.zero_add]
        exact (blk_cell hv1 j).trans (by rw [List.getElem?_toArray]; exact hj))
      (fun j hj => by
        rw [hnl] at hj
        rw [hO.cellAt (k * 2 + j) (by omega), List.getElem?_eq_getElem (by omega)]; rfl)
      (fun j _ => hO.frozenAt _) hn1
  have hp1 := own_put_s nv W1 _ (k * 2) hO
  obtain ⟨W2, hW2⟩ : ∃ W2, W1.setCells w.heap.size (k * 2) nv = W2 := ⟨_, rfl⟩
  rw [hW2] at hp1 hcp1
  obtain ⟨hm1, hG1⟩ := hp1
  have hput1 : putAt (ROW.toList.take ((n + 1) * 2)) (k * 2) nv = xs.take (k * 2) ++ (nv ++ (ROW.toList.take ((n + 1) * 2)).drop (k * 2 + 2)) := by
    rw [putAt_eq _ _ _ (by rw [hRl, hnl]; omega), hRt, hnl]
  have hlen1 : (putAt (ROW.toList.take ((n + 1) * 2)) (k * 2) nv).length = (n + 1) * 2 := by rw [hput1, List.length_append, List.length_append, List.length_drop, htl, hnl, hRl]; omega
  have hgN : g ≠ w.heap.size := by omega
  have hsrc : ∀ j, j < n * 2 → W2.cell? ⟨g, j, none⟩ = xs[j]? := fun j hj => by
    have hc1 : w.cell? ⟨g, j, none⟩ = some (xs[j]'(by omega)) := by rw [hcell j hj, List.getElem?_eq_getElem]
    have hc2 := ext_cell hE1 hc1
    rw [List.getElem?_eq_getElem (by omega)]
    exact (World.cell?_of_block (hG1.block g (World.block_lt_of_cell? W1 ⟨g, j, none⟩ hc2) (fun q => hgN (by injection q)))).trans hc2
  have hcp2 : ∀ ty dc sc, (Builtin.copy_ #[90, 90] ty #[.slice (some ⟨w.heap.size, (k + 1) * 2, none⟩) (n - k) dc, .slice (some ⟨g, k * 2, none⟩) (n - k) sc]).run Try.prog W2.drew = .ok (goInt ((n - k : Nat) : Int)) (W2.drew.setCells w.heap.size ((k + 1) * 2) (xs.drop (k * 2))) := fun ty dc sc =>
    run_copy_cells_s W2.drew _ _ ty 102 2 w.heap.size ((k + 1) * 2) (n - k) dc ⟨g, k * 2, none⟩ (n - k) sc (n - k) _ Try.underlying90 sh_info1 (by simp only [Nat.min_def]; split <;> omega) hdl
      (fun j v hj => by
        rw [Addr.add_lit]
        have hjl : j < (n - k) * 2 := by rw [← hdl]; exact (List.getElem?_eq_some_iff.1 hj).1
        refine (hsrc (k * 2 + j) (by omega)).trans ?_
        rw [← hj, List.getElem?_drop])
      (fun j hj => by
        rw [hdl] at hj
        show (W2.cell? _).isSome = true
        rw [hm1.cellAt _ (by omega), List.getElem?_eq_getElem (by omega)]; rfl)
      (fun j _ => hm1.frozenAt _) (fun v hv => hx1 v (List.mem_of_mem_drop hv))
  have hp2 := own_put_s (xs.drop (k * 2)) W2.drew _ ((k + 1) * 2) hm1.drew
  obtain ⟨W3, hW3⟩ : ∃ W3, W2.drew.setCells w.heap.size ((k + 1) * 2) (xs.drop (k * 2)) = W3 := ⟨_, rfl⟩
  rw [hW3] at hp2 hcp2
  have hfin : putAt (putAt (ROW.toList.take ((n + 1) * 2)) (k * 2) nv) ((k + 1) * 2) (xs.drop (k * 2)) = insF 2 xs k nv := by
    rw [putAt_eq _ _ _ (by rw [hlen1, hdl]; omega)]
    rw [show (putAt (ROW.toList.take ((n + 1) * 2)) (k * 2) nv).drop ((k + 1) * 2 + (xs.drop (k * 2)).length) = [] from List.drop_of_length_le (by rw [hlen1, hdl]; omega), List.append_nil, hput1]
    unfold insF
    have h1 : (xs.take (k * 2) ++ (nv ++ (ROW.toList.take ((n + 1) * 2)).drop (k * 2 + 2))).take ((k + 1) * 2) = xs.take (k * 2) ++ nv := by
      rw [← List.append_assoc]
      exact List.take_left' (by rw [List.length_append, htl, hnl]; omega)
    rw [h1, List.append_assoc]
  have Fin := Lib.hid (show sh_InsR base (some ⟨g, 0, none⟩) n c xs k nv w (.returned (.slice (some ⟨w.heap.size, 0, none⟩) (n + 1) G)) W3 from ⟨_, _, rfl, by rw [← hfin]; exact hp2.1, grown_new (grown_drew (grown_new (grown_none hE1 _) hG1 (Nat.le_refl _))) hp2.2 (Nat.le_refl _)⟩)
  clear hp2 hfin hm1 hG1 hput1 hlen1 hsrc hO hRl hRt hE1 hv1 hRs hROW hG hkk hold hcell hdl htl ho hv hl hW1 hW2 hW3 hg1 hGm hi0 hz0 hzs hzb hx1 hn1 hzz
  have hw1 : IntKind.i64.wrap ((k : Int) + 1) = (k : Int) + 1 := by rw [IntKind.wrap_i64]; omega
  have hw2 : IntKind.i64.wrap ((n : Int) + 1) = (n : Int) + 1 := by rw [IntKind.wrap_i64]; omega
  have hw3 : IntKind.i64.wrap ((n : Int) + 1 - (k : Int)) = (n : Int) + 1 - (k : Int) := by rw [IntKind.wrap_i64]; omega
  have hz2 : ¬ ((k : Int) = (n : Int)) := by omega
  have hb1 : (0 : Int) ≤ (k : Int) + 1 := by omega
  have hin : k ≤ n := by omega
  have htn : ((k : Int) + 1).toNat = k + 1 := by omega
  have hb2 : ¬ (G = k + 1) := by omega
  have hb3 : (k : Int) ≤ (n : Int) + 1 := by omega
  have hb4 : ¬ (c = k) := by omega
  have hb7 : ¬ (G = k) := by omega
  have hb5 : (c : Int) < (n : Int) + 1 := by omega
  have hb6 : (k : Int) ≤ (c : Int) := by omega
  have mixed : Try.prog.follows Departure.mixedOrders = true := by kernel_rfl
  have hsz := sh_size
  go_enter Try.func110, Try.ntmps110
  go_wp2_with (first
    | (at_builtin; refine Lib.wpList_append_run _ rfl _ _ _ _ rfl _ _ rfl rfl _ _ (hrz _) ?_)
    | (at_builtin; refine wpList_copy_runI _ rfl _ _ 90 90 rfl _ _ rfl rfl (hcp1 _ _) ?_))
  go_region_law_o (refine step_copy_runI rfl _ _ 90 90 rfl _ _ (by simp [Act.eval, Act.put]) (by simp [Act.eval, Act.put]) (hcp2 _ _ _) ?_)
  go_wp2
  go_ret
  exact Fin.out
/-- slices.Insert of one -/
theorem sh_insert (w : World) (base : Nat) (A : Option Addr) (n c vb k : Nat) (xs nv : List Value) (hx1 : ∀ u ∈ xs, u.oneCell' = true) (hnl : nv.length = 2) (hn1 : ∀ u ∈ nv, u.oneCell' = true) (hn : n ≤ 100000) (hk : k ≤ n) (ho : w.ownsRow base 102 2 (.slice A n c) n xs) (hv : w.heap[vb]? = some (.cells nv.toArray 102 (0, 0))) (hne : (Value.slice A n c).ownBlock ≠ some vb) (hbase : base ≤ w.heap.size) :
    Calls Try.prog 110 #[.slice A n c, .int .i64 (k : Int), .slice (some ⟨vb, 0, none⟩) 1 1] w (sh_InsR base A n c xs k nv w) := by
  have hnc := own_cap ho
  by_cases h1 : k = n
  · subst h1
    exact sh_ins_end w base A k c vb xs nv hnl hn1 hn ho hv hbase
  · by_cases h2 : n < c
    · have hcm : c ≤ 9223372036854775807 := by
        rcases ho.2 with ⟨h3, h4⟩ | ⟨g, cap, cur, h3, _, _, _, h4, _⟩
        · omega
        · injection h3 with _ _ h3
          unfold maxLen at h4
          omega
      exact sh_ins_room w base A n c vb k xs nv hx1 hnl hn1 hn (by omega) h2 hcm ho hv hne
    · exact sh_ins_grow w base A n c vb k xs nv hx1 hnl hn1 hn (by omega) hnc (by omega) ho hv hbase
def sh_DelR (base : Nat) (A : Option Addr) (n c : Nat) (xs : List Value) (k : Nat) (w : World) (e : Ending) (w' : World) : Prop :=
  e = .returned (.slice A (n - 1) c) ∧ w'.ownsRow base 102 2 (.slice A (n - 1) c) (n - 1) (delF 2 xs k) ∧ w.grownBy w' (Value.slice A n c).ownBlock
set_option maxHeartbeats 4000000 in
set_option maxRecDepth 100000 in
theorem sh_delete (w : World) (base : Nat) (A : Option Addr) (n c k : Nat) (xs : List Value) (hx1 : ∀ u ∈ xs, u.oneCell' = true) (hn : n ≤ 100000) (hk : k < n) (ho : w.ownsRow base 102 2 (.slice A n c) n xs) :
    Calls Try.prog 109 #[.slice A n c, .int .i64 (k : Int), .int .i64 ((k : Int) + 1)] w (sh_DelR base A n c xs k w) := by
  have hl : xs.length = n * 2 := ho.1
  have hnc := own_cap ho
  obtain ⟨g, rfl, hg1, hg2⟩ := own_some_s ho (by omega)
  have hcm : c ≤ 9223372036854775807 := by
    rcases ho.2 with ⟨h3, h4⟩ | ⟨g, cap, cur, h3, _, _, _, h4, _⟩
    · omega
    · injection h3 with _ _ h3
      unfold maxLen at h4
      omega
  obtain ⟨i0, hi0, hz0, hz1, hz2⟩ := info_parts sh_info
  obtain ⟨news, hnews⟩ : ∃ news, xs.drop ((k + 1) * 2) = news := ⟨_, rfl⟩
  have hlen : news.length = (n - (k + 1)) * 2 := by rw [← hnews, List.length_drop, hl]; omega
  have hcell : ∀ j, j < n * 2 → w.cell? ⟨g, j, none⟩ = xs[j]? := fun j hj => ho.cellAt j hj
  obtain ⟨B, hA, hsrc⟩ : ∃ B : Addr, (if c = k + 1 then (some ⟨g, 0, none⟩ : Option Addr) else some ⟨g, (k + 1) * 2, none⟩) = some B ∧ Hid (∀ t u, news[t]? = some u → w.drew.cell? (B.add t) = some u) := by
    by_cases h : c = k + 1
    · refine ⟨⟨g, 0, none⟩, by simp [h], fun t u hu => ?_⟩
      have h0 : news.length = 0 := by rw [hlen]; omega
      rw [List.length_eq_zero_iff.1 h0] at hu
      simp at hu
    · refine ⟨⟨g, (k + 1) * 2, none⟩, by simp [h], fun t u hu => ?_⟩
      have ht : t < (n - (k + 1)) * 2 := by rw [← hlen]; exact (List.getElem?_eq_some_iff.1 hu).1
      rw [Addr.add_lit]
      refine (hcell ((k + 1) * 2 + t) (by omega)).trans ?_
      rw [← hu, ← hnews, List.getElem?_drop]
  have s1 : Hid (news.length = (n - (k + 1)) * 2) := hlen
  have s2 : Hid (∀ u ∈ news, u.oneCell' = true) := fun u hu => hx1 u (by rw [← hnews] at hu; exact List.mem_of_mem_drop hu)
  have s3 : Hid (∀ t, t < news.length → (w.drew.cell? ⟨g, 0 + k * 2 + t, none⟩).isSome = true ∧ w.drew.frozen? ⟨g, 0 + k * 2 + t, none⟩ = false) := fun t ht => by
    rw [hlen] at ht
    rw [Nat.zero_add]
    refine ⟨?_, ho.frozenAt _⟩
    show (w.cell? _).isSome = true
    rw [hcell _ (by omega), List.getElem?_eq_getElem (by omega)]; rfl
  obtain ⟨W1, hW1⟩ : ∃ W1, W1 = w.drew.setCells g (0 + k * 2) news := ⟨_, rfl⟩
  have hp1 := own_put_s news w.drew _ (0 + k * 2) ho.drew
  rw [← hW1] at hp1
  obtain ⟨hm1, hG1⟩ := hp1
  rw [Nat.zero_add] at hm1
  have hput1 : putAt xs (k * 2) news = xs.take (k * 2) ++ (news ++ xs.drop (k * 2 + news.length)) := putAt_eq _ _ _ (by rw [hl, hlen]; omega)
  have hlen1 : (putAt xs (k * 2) news).length = n * 2 := by rw [hput1, List.length_append, List.length_append, List.length_take, List.length_drop, hl, hlen]; omega
  obtain ⟨ZS, hZS⟩ : ∃ ZS, (Builtin.zeroCells (Value.cells (.agg #[.slice none 0 0, .int .i64 0])) (n - (k + (n - (k + 1))))).toList = ZS := ⟨_, rfl⟩
  have hZ := sh_zcells (n - (k + (n - (k + 1))))
  rw [hZS] at hZ
  have hcl : ∀ ty, (Builtin.clear_ #[90] ty #[.slice (some ⟨g, (k + (n - (k + 1))) * 2, none⟩) (n - (k + (n - (k + 1)))) (c - (k + (n - (k + 1))))]).run Try.prog W1 = .ok (.tuple #[]) (W1.setCells g ((k + (n - (k + 1))) * 2) ZS) :=
    fun ty => run_clear_cells_s W1 _ _ ty _ ZS Try.underlying90 sh_zero g ((k + (n - (k + 1))) * 2) _ _ (by omega) hZS hZ.2 (fun t ht => by
      rw [hZ.1] at ht
      rw [hm1.cellAt _ (by omega), List.getElem?_eq_getElem (by rw [hlen1]; omega)]; rfl) (fun t _ => hm1.frozenAt _)
  obtain ⟨W2, hW2⟩ : ∃ W2, W1.setCells g ((k + (n - (k + 1))) * 2) ZS = W2 := ⟨_, rfl⟩
  have hp2 := own_put_s ZS W1 _ ((k + (n - (k + 1))) * 2) hm1
  rw [hW2] at hp2 hcl
  have hfin : (putAt (putAt xs (k * 2) news) ((k + (n - (k + 1))) * 2) ZS).take ((n - 1) * 2) = delF 2 xs k := by
    rw [putAt_eq _ _ _ (by rw [hlen1, hZ.1]; omega), show k + (n - (k + 1)) = n - 1 by omega]
    rw [List.take_left' (by rw [List.length_take, hlen1]; omega), hput1, ← List.append_assoc]
    rw [List.take_left' (by rw [List.length_append, List.length_take, hl, hlen]; omega), ← hnews]
    unfold delF
    rw [Nat.add_mul, Nat.one_mul]
  have Fin := Lib.hid (show sh_DelR base (some ⟨g, 0, none⟩) n c xs k w (.returned (.slice (some ⟨g, 0, none⟩) (n - 1) c)) W2 from ⟨rfl, by rw [← hfin]; exact own_sub_s hp2.1 (by omega), World.grown_trans (grown_undrew hG1) hp2.2⟩)
  have hW : Hid (W1 = w.drew.setCells g (0 + k * 2) news) := hW1
  have hic : k ≤ c := by omega
  have hjc : k + 1 ≤ c := by omega
  have hkn : k + 1 ≤ n := by omega
  have hw1 : IntKind.i64.wrap ((k : Int) + 1) = (k : Int) + 1 := by rw [IntKind.wrap_i64]; omega
  have hz3 : ¬ ((k : Int) = (k : Int) + 1) := by omega
  have hb1 : (0 : Int) ≤ (k : Int) + 1 := by omega
  have htn : ((k : Int) + 1).toNat = k + 1 := by omega
  have hb3 : (k : Int) + 1 ≤ (n : Int) := by omega
  have hb4 : (k : Int) ≤ (k : Int) + 1 := by omega
  have hb6 : (k : Int) + 1 ≤ (c : Int) := by omega
  have mixed : Try.prog.follows Departure.mixedOrders = true := by kernel_rfl
  have hsz := sh_size
  clear hW1 hp2 hfin hm1 hG1 hput1 hlen1 hcell hlen hnews ho hl hW2 hg1 hg2 hx1 hZ hZS
  go_enter Try.func109, Try.ntmps109
  go_wp2_with fail
  go_region_law_o (refine step_append_room rfl (.tmp 22) (.tmp 25) 90 rfl 102 i0 2 Try.underlying90 hi0 hz1 g 0 k c (by simp [Act.eval, Act.put]) B (n - (k + 1)) (c - (k + 1)) news (by simp [Act.eval, Act.put]) s1.out hsrc.out s2.out (by omega) s3.out ?_; rw [← hW.out])
  go_wp2
  go_ret
  have e : k + (n - (k + 1)) = n - 1 := by omega
  first | exact Fin.out | (rw [e]; exact Fin.out)
end Go.Proofs.Ytlgggeeflomelaa
