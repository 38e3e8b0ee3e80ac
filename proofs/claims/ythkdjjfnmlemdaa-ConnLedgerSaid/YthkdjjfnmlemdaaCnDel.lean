/- slices.Clone, Insert of one, Delete of one, of a struct (written by gen_ins.py). -/
import Derived.Test.YthkdjjfnmlemdaaFrE
import Derived.Test.YthkdjjfnmlemdaaRowS
import Derived.Shelf.Spec.SlicesInsertGrow
import Derived.Shelf.Slices.Delete
import Derived.Deep.DeepCutAuto
namespace Go.Proofs.Ythkdjjfnmlemdaa
open Go.RowKit

theorem tk_info : (Try.prog.info? 53).map (fun i => (i.zero, i.size, i.bytes)) = some (some (.agg #[.int .i64 0, .slice none 0 0, .int .i64 0]), 3, 40) := by kernel_rfl
theorem tk_size : ∀ u : World, (sizeOf 53).run Try.prog u = .ok 3 u := fun _ => by kernel_rfl
theorem tk_info1 : (Try.prog.info? 53).map (·.size) = some 3 := by kernel_rfl
theorem tk_zero : ∀ w : World, (zeroValue 53).run Try.prog w = .ok (.agg #[.int .i64 0, .slice none 0 0, .int .i64 0]) w := fun _ => by kernel_rfl
theorem tk_zcells (n : Nat) : ((Builtin.zeroCells (Value.cells (.agg #[.int .i64 0, .slice none 0 0, .int .i64 0])) n).toList).length = n * 3 ∧ ∀ v ∈ (Builtin.zeroCells (Value.cells (.agg #[.int .i64 0, .slice none 0 0, .int .i64 0])) n).toList, v.oneCell' = true := by
  refine ⟨by rw [Array.length_toList, size_zeroCells]; rfl, fun v hv => ?_⟩
  simp only [Builtin.zeroCells, Array.toList_map, List.mem_map] at hv
  obtain ⟨i, _, rfl⟩ := hv
  have hi : i % 3 < 3 := Nat.mod_lt _ (by omega)
  show ((.agg #[.int .i64 0, .slice none 0 0, .int .i64 0] : Value).cells[i % 3]!).oneCell' = true
  have h9 : ∀ j, j < 3 → ((.agg #[.int .i64 0, .slice none 0 0, .int .i64 0] : Value).cells[j]!).oneCell' = true := by decide
  exact h9 _ hi
/-- append onto a row of one's own -/
theorem tk_app {ops : Array Oper} {rest : List Oper} {o : Oper} {a : Act} {Q : Exit → Act → World → Prop} (w : World) (hgd : o.guard = none) (s x : Operand)
    (ho : o.op = .call { callee := .builtin .append, args := #[s, x], argTypes := #[93, 93] })
    (base : Nat) {B : Option Addr} {n cb : Nat} {xs : List Value} (hs : a.eval s = .slice B n cb) (hown : w.ownsRow base 53 3 (.slice B n cb) n xs)
    {A : Option Addr} {m c : Nat} {news : List Value} (hx : a.eval x = .slice A m c) (hl : news.length = m * 3) (hr : Rd w A news) (h1 : ∀ u ∈ news, u.oneCell' = true) (hb : n + m ≤ 1000000) (hbase : base ≤ w.heap.size)
    (h : ∀ B' cb' w', w'.ownsRow base 53 3 (.slice B' (n + m) cb') (n + m) (xs ++ news) → w.grownBy w' (Value.slice B n cb).ownBlock →
      ((Value.slice B' (n + m) cb').ownBlock = (Value.slice B n cb).ownBlock ∨ (Value.slice B' (n + m) cb').ownBlock = some w.heap.size) → wpList Try.prog ops Q rest (a.put o.dst (.slice B' (n + m) cb')) w') :
    wpList Try.prog ops Q (o :: rest) a w := by
  obtain ⟨i0, hi, hz0, hz1, hz2⟩ := info_parts tk_info
  exact wpList_append_rd w hgd s x 93 ho base 53 Try.underlying93 hi hz0 hz1 hz2 rfl (by decide) hs hown hx hl hr h1 (by unfold maxLen; omega) (by omega) hbase h
theorem tk_nilq (w : World) (A : Option Addr) (n c n' c' : Nat) : (binOp .eql 93 (.slice A n c) (.slice none n' c')).run Try.prog w = .ok (.bool A.isNone) w := Lib.run_eql_slice_nil w _ _ A n c n' c' Try.underlying93
def tk_DelR (base : Nat) (A : Option Addr) (n c : Nat) (xs : List Value) (k : Nat) (w : World) (e : Ending) (w' : World) : Prop :=
  e = .returned (.slice A (n - 1) c) ∧ w'.ownsRow base 53 3 (.slice A (n - 1) c) (n - 1) (delF 3 xs k) ∧ w.grownBy w' (Value.slice A n c).ownBlock
set_option maxHeartbeats 4000000 in
set_option maxRecDepth 100000 in
theorem tk_delete (w : World) (base : Nat) (A : Option Addr) (n c k : Nat) (xs : List Value) (hx1 : ∀ u ∈ xs, u.oneCell' = true) (hn : n ≤ 100000) (hk : k < n) (ho : w.ownsRow base 53 3 (.slice A n c) n xs) :
    Calls Try.prog 88 #[.slice A n c, .int .i64 (k : Int), .int .i64 ((k : Int) + 1)] w (tk_DelR base A n c xs k w) := by
  have hl : xs.length = n * 3 := ho.1
  have hnc := own_cap ho
  obtain ⟨g, rfl, hg1, hg2⟩ := own_some_s ho (by omega)
  have hcm : c ≤ 9223372036854775807 := by
    rcases ho.2 with ⟨h3, h4⟩ | ⟨g, cap, cur, h3, _, _, _, h4, _⟩
    · omega
    · injection h3 with _ _ h3
      unfold maxLen at h4
      omega
  obtain ⟨i0, hi0, hz0, hz1, hz2⟩ := info_parts tk_info
  obtain ⟨news, hnews⟩ : ∃ news, xs.drop ((k + 1) * 3) = news := ⟨_, rfl⟩
  have hlen : news.length = (n - (k + 1)) * 3 := by rw [← hnews, List.length_drop, hl]; omega
  have hcell : ∀ j, j < n * 3 → w.cell? ⟨g, j, none⟩ = xs[j]? := fun j hj => ho.cellAt j hj
  obtain ⟨B, hA, hsrc⟩ : ∃ B : Addr, (if c = k + 1 then (some ⟨g, 0, none⟩ : Option Addr) else some ⟨g, (k + 1) * 3, none⟩) = some B ∧ Hid (∀ t u, news[t]? = some u → w.drew.cell? (B.add t) = some u) := by
    by_cases h : c = k + 1
    · refine ⟨⟨g, 0, none⟩, by simp [h], fun t u hu => ?_⟩
      have h0 : news.length = 0 := by rw [hlen]; omega
      rw [List.length_eq_zero_iff.1 h0] at hu
      simp at hu
    · refine ⟨⟨g, (k + 1) * 3, none⟩, by simp [h], fun t u hu => ?_⟩
      have ht : t < (n - (k + 1)) * 3 := by rw [← hlen]; exact (List.getElem?_eq_some_iff.1 hu).1
      rw [Addr.add_lit]
      refine (hcell ((k + 1) * 3 + t) (by omega)).trans ?_
      rw [← hu, ← hnews, List.getElem?_drop]
  have s1 : Hid (news.length = (n - (k + 1)) * 3) := hlen
  have s2 : Hid (∀ u ∈ news, u.oneCell' = true) := fun u hu => hx1 u (by rw [← hnews] at hu; exact List.mem_of_mem_drop hu)
  have s3 : Hid (∀ t, t < news.length → (w.drew.cell? ⟨g, 0 + k * 3 + t, none⟩).isSome = true ∧ w.drew.frozen? ⟨g, 0 + k * 3 + t, none⟩ = false) := fun t ht => by
    rw [hlen] at ht
    rw [Nat.zero_add]
    refine ⟨?_, ho.frozenAt _⟩
    show (w.cell? _).isSome = true
    rw [hcell _ (by omega), List.getElem?_eq_getElem (by omega)]; rfl
  obtain ⟨W1, hW1⟩ : ∃ W1, W1 = w.drew.setCells g (0 + k * 3) news := ⟨_, rfl⟩
  have hp1 := own_put_s news w.drew _ (0 + k * 3) ho.drew
  rw [← hW1] at hp1
  obtain ⟨hm1, hG1⟩ := hp1
  rw [Nat.zero_add] at hm1
  have hput1 : putAt xs (k * 3) news = xs.take (k * 3) ++ (news ++ xs.drop (k * 3 + news.length)) := putAt_eq _ _ _ (by rw [hl, hlen]; omega)
  have hlen1 : (putAt xs (k * 3) news).length = n * 3 := by rw [hput1, List.length_append, List.length_append, List.length_take, List.length_drop, hl, hlen]; omega
  obtain ⟨ZS, hZS⟩ : ∃ ZS, (Builtin.zeroCells (Value.cells (.agg #[.int .i64 0, .slice none 0 0, .int .i64 0])) (n - (k + (n - (k + 1))))).toList = ZS := ⟨_, rfl⟩
  have hZ := tk_zcells (n - (k + (n - (k + 1))))
  rw [hZS] at hZ
  have hcl : ∀ ty, (Builtin.clear_ #[93] ty #[.slice (some ⟨g, (k + (n - (k + 1))) * 3, none⟩) (n - (k + (n - (k + 1)))) (c - (k + (n - (k + 1))))]).run Try.prog W1 = .ok (.tuple #[]) (W1.setCells g ((k + (n - (k + 1))) * 3) ZS) :=
    fun ty => run_clear_cells_s W1 _ _ ty _ ZS Try.underlying93 tk_zero g ((k + (n - (k + 1))) * 3) _ _ (by omega) hZS hZ.2 (fun t ht => by
      rw [hZ.1] at ht
      rw [hm1.cellAt _ (by omega), List.getElem?_eq_getElem (by rw [hlen1]; omega)]; rfl) (fun t _ => hm1.frozenAt _)
  obtain ⟨W2, hW2⟩ : ∃ W2, W1.setCells g ((k + (n - (k + 1))) * 3) ZS = W2 := ⟨_, rfl⟩
  have hp2 := own_put_s ZS W1 _ ((k + (n - (k + 1))) * 3) hm1
  rw [hW2] at hp2 hcl
  have hfin : (putAt (putAt xs (k * 3) news) ((k + (n - (k + 1))) * 3) ZS).take ((n - 1) * 3) = delF 3 xs k := by
    rw [putAt_eq _ _ _ (by rw [hlen1, hZ.1]; omega), show k + (n - (k + 1)) = n - 1 by omega]
    rw [List.take_left' (by rw [List.length_take, hlen1]; omega), hput1, ← List.append_assoc]
    rw [List.take_left' (by rw [List.length_append, List.length_take, hl, hlen]; omega), ← hnews]
    unfold delF
    rw [Nat.add_mul, Nat.one_mul]
  have Fin := Lib.hid (show tk_DelR base (some ⟨g, 0, none⟩) n c xs k w (.returned (.slice (some ⟨g, 0, none⟩) (n - 1) c)) W2 from ⟨rfl, by rw [← hfin]; exact own_sub_s hp2.1 (by omega), World.grown_trans (grown_undrew hG1) hp2.2⟩)
  have hW : Hid (W1 = w.drew.setCells g (0 + k * 3) news) := hW1
  have hic : k ≤ c := by omega
  have hjc : k + 1 ≤ c := by omega
  have hkn : k + 1 ≤ n := by omega
  have hw1 : IntKind.i64.wrap ((k : Int) + 1) = (k : Int) + 1 := by rw [IntKind.wrap_i64]; omega
  have hz3 : ¬ ((k : Int) = (k : Int) + 1) := by omega
  have hb1 : (0 : Int) ≤ (k : Int) + 1 := by omega
  have htn : ((k : Int) + 1).toNat = k + 1 := by omega
  have hb3 : (k : Int) + 1 ≤ (n : Int) := by omega
  have hb4 : (k : Int) ≤ (k : Int) + 1 := by omega
  have hb6 : (k : Int) + 1 ≤ (c : Int) := by omega
  have mixed : Try.prog.follows Departure.mixedOrders = true := by kernel_rfl
  have hsz := tk_size
  clear hW1 hp2 hfin hm1 hG1 hput1 hlen1 hcell hlen hnews ho hl hW2 hg1 hg2 hx1 hZ hZS
  go_enter Try.func88, Try.ntmps88
  go_wp2_with fail
  go_region_law_o (refine step_append_room rfl (.tmp 22) (.tmp 25) 93 rfl 53 i0 3 Try.underlying93 hi0 hz1 g 0 k c (by simp [Act.eval, Act.put]) B (n - (k + 1)) (c - (k + 1)) news (by simp [Act.eval, Act.put]) s1.out hsrc.out s2.out (by omega) s3.out ?_; rw [← hW.out])
  go_wp2
  go_ret
  have e : k + (n - (k + 1)) = n - 1 := by omega
  first | exact Fin.out | (rw [e]; exact Fin.out)
end Go.Proofs.Ythkdjjfnmlemdaa
