/- mach: note. -/
import Derived.Test.YtlgggeeflomelaaMchA
import Derived.Deep.RegionHeld3
import Derived.Deep.DeepCutAuto
import Derived.Deep.RegionLaw
import Derived.Deep.DeepMust
namespace Go.Proofs.Ytlgggeeflomelaa
open Go.RowKit

theorem mach_mk {w W : World} {F : Nat → Prop} {g gw n cb k : Nat} {ws : List Nat} {clk : Int} {L : List AccE} {B : Option Addr} (h : GB w W F)
    (h1 : W.heap[g]? = some (.cells #[.slice (some ⟨gw, 0, none⟩) ws.length ws.length, .int .i64 clk, .int .i64 (L.length : Int), .slice B n cb] 168 (0, 0)))
    (h2 : W.heap[gw]? = some (.cells (vals .u64 ws).toArray 122 (0, 0))) (h3 : W.ownsRow (g + 1) 196 6 (.slice B n cb) n (accs (L.drop k)))
    (h4 : n + k = L.length) (h5 : n ≤ 128) (h6 : k = 0 ∨ 64 ≤ n) (h7 : gw < g) (h8 : F g) (h9 : F gw) (h10 : ∀ q, (Value.slice B n cb).ownBlock = some q → F q ∨ w.heap.size ≤ q) (h11 : ∀ i, F i → i < w.heap.size) : MachGo w F g ws clk L W := by
  refine ⟨fun i => F i ∨ (Value.slice B n cb).ownBlock = some i, ⟨gw, B, n, cb, k, h1, h2, h3, h4, h5, h6, h7, .inl h8, .inl h9, fun q e => .inr e, fun i hi => ?_⟩, h, fun i hi => ?_⟩
  · rcases hi with hi | hi
    · exact Nat.lt_of_lt_of_le (h11 i hi) h.size
    · exact (h3.lt i hi).2
  · rcases hi with hi | hi
    · exact .inl hi
    · exact h10 i hi
theorem ext_size {w w' : World} (h : Ext w w') : w.heap.size ≤ w'.heap.size := h.size
theorem rdD {w : World} {A : Option Addr} {vs : List Value} (h : Rd w A vs) : Rd w.drew A vs := h
theorem step_app_acc {ops : Array Oper} {o : Oper} {a : Act} {K : Act → World → Prop} {Q : Exit → Act → World → Prop} {E : Prop} (w : World) (hgd : o.guard = none) (s x : Operand)
    (ho : o.op = .call { callee := .builtin .append, args := #[s, x], argTypes := #[166, 166] })
    (base : Nat) {B : Option Addr} {n cb : Nat} {xs : List AccE} (hs : a.eval s = .slice B n cb) (hown : w.ownsRow base 196 6 (.slice B n cb) n (accs xs))
    {A : Option Addr} {c : Nat} (y : AccE) (hx : a.eval x = .slice A 1 c) (hr : Rd w A y.cells) (hb : n ≤ 1000) (hbase : base ≤ w.heap.size)
    (h : ∀ B' cb' w', w'.ownsRow base 196 6 (.slice B' (n + 1) cb') (n + 1) (accs (xs ++ [y])) → w.grownBy w' (Value.slice B n cb).ownBlock →
      ((Value.slice B' (n + 1) cb').ownBlock = (Value.slice B n cb).ownBlock ∨ (Value.slice B' (n + 1) cb').ownBlock = some w.heap.size) → K (a.put o.dst (.slice B' (n + 1) cb')) w') :
    if Region.wanted o (yielded ops a.tmps) = true then Oper.wp Try.prog o a w K Q else E := by
  have hw : Region.wanted o (yielded ops a.tmps) = true := by simp [Region.wanted, hgd]
  rw [if_pos hw]
  obtain ⟨i0, hi, hz0, hz1, hz2⟩ := info_parts info_acc
  exact wp_append_rd w s x 166 ho base 196 Try.underlying166 hi hz0 hz1 hz2 rfl (by decide) hs hown hx (m := 1) (news := y.cells) rfl hr (by rw [← accs_one']; exact accs_one _) (by unfold maxLen; omega) (by omega) hbase
    fun B' cb' w' h2 h3 h4 => h B' cb' w' (by rw [accs_app, accs_one']; exact h2) h3 h4
set_option maxHeartbeats 2000000 in
set_option maxRecDepth 100000 in
theorem note_any (w : World) (F : Nat → Prop) (g : Nat) (ws : List Nat) (clk : Int) (L : List AccE) (a : AccE) (h : MachAt w F g ws clk L) (hL : L.length ≤ 1000000) :
    Calls Try.prog 99 #[.pointer (some ⟨g, 0, none⟩), .agg #[.int .i64 a.who, .int .u8 a.kind, .int .i64 a.word, .int .u64 (a.old : Int), .int .u64 (a.new : Int), .bool a.done]] w fun e w' => e = .returned (.tuple #[]) ∧ MachGo w F g ws clk (L ++ [a]) w' := by
  obtain ⟨gw, B, n, cb, k, h1, h2, h3, h4, h5, h6, h7, h8, h9, h10, h11⟩ := h
  have hwrap : IntKind.i64.wrap ((L.length : Int) + 1) = ((L.length : Int) + 1) := by rw [IntKind.wrap_i64]; omega
  have H1 := Lib.hid h1
  have b2 : (w.alloc (.cells #[.int .i64 a.who, .int .u8 a.kind, .int .i64 a.word, .int .u64 (a.old : Int), .int .u64 (a.new : Int), .bool a.done] 196 (0, 0))).cell? ⟨g, 2, none⟩ = some (.int .i64 (L.length : Int)) := cell_past (blk_cell h1 2) _
  have f2 := fz_past h1 2 (.cells #[.int .i64 a.who, .int .u8 a.kind, .int .i64 a.word, .int .u64 (a.old : Int), .int .u64 (a.new : Int), .bool a.done] 196 (0, 0))
  have H4 := Lib.hid h4
  clear h1 h4
  have hgs : g < w.heap.size := blk_lt H1.out
  obtain ⟨W, hW⟩ : ∃ W, Hid ((w.setCell ⟨g, 2, none⟩ (.int .i64 ((L.length : Int) + 1))).alloc (.cells #[.int .i64 a.who, .int .u8 a.kind, .int .i64 a.word, .int .u64 (a.old : Int), .int .u64 (a.new : Int), .bool a.done] 196 (0, 0)) = W) := ⟨_, rfl⟩
  have G0 : GB w W F := by rw [← hW.out]; exact ((GB.refl w F).set g 2 _ (.inl h8)).alloc _
  have HG := Lib.hid (show W.heap[g]? = some (.cells #[.slice (some ⟨gw, 0, none⟩) ws.length ws.length, .int .i64 clk, .int .i64 ((L.length : Int) + 1), .slice B n cb] 168 (0, 0)) by rw [← hW.out]; exact blk_past (blk_set H1.out 2 _) _)
  have HB := Lib.hid (show W.heap[w.heap.size]? = some (.cells #[.int .i64 a.who, .int .u8 a.kind, .int .i64 a.word, .int .u64 (a.old : Int), .int .u64 (a.new : Int), .bool a.done] 196 (0, 0)) by rw [← hW.out]; exact blk_newk _ _ (by simp))
  have HW2 := Lib.hid (show W.heap[gw]? = some (.cells (vals .u64 ws).toArray 122 (0, 0)) by rw [← hW.out]; exact blk_past (blk_grown h2 (grown_set _ g 2 _) (by omega)) _)
  have hob : ∀ q, (Value.slice B n cb).ownBlock = some q → q ≠ g ∧ q ≠ gw ∧ q < w.heap.size := fun q e => by have := h3.lt q e; omega
  have HO := Lib.hid (show W.ownsRow (g + 1) 196 6 (.slice B n cb) n (accs (L.drop k)) by
    rw [← hW.out]
    exact own_ext (h3.kept (grown_set _ g 2 _) (by
      cases hq : (Value.slice B n cb).ownBlock with
      | none => exact .inl rfl
      | some q => exact .inr fun e => by injection e with e; exact (hob q hq).1 e)) ((Ext.refl _).alloc _))
  have hsW : w.heap.size < W.heap.size := blk_lt HB.out
  clear h2 h3
  go_enter Try.func99, Try.ntmps99
  go_upto_region 2 with fail
  rw [hW.out]
  clear hW b2 f2 hwrap
  have c3 : W.cell? ⟨g, 3, none⟩ = some (.slice B n cb) := blk_cell HG.out 3
  have a0 : W.cell? ⟨w.heap.size, 0, none⟩ = some (.int .i64 a.who) := blk_cell HB.out 0
  have a1 : W.cell? ⟨w.heap.size, 1, none⟩ = some (.int .u8 a.kind) := blk_cell HB.out 1
  have a2 : W.cell? ⟨w.heap.size, 2, none⟩ = some (.int .i64 a.word) := blk_cell HB.out 2
  have a3 : W.cell? ⟨w.heap.size, 3, none⟩ = some (.int .u64 (a.old : Int)) := blk_cell HB.out 3
  have a4 : W.cell? ⟨w.heap.size, 4, none⟩ = some (.int .u64 (a.new : Int)) := blk_cell HB.out 4
  have a5 : W.cell? ⟨w.heap.size, 5, none⟩ = some (.bool a.done) := blk_cell HB.out 5
  have f3 : W.frozen? ⟨g, 3, none⟩ = false := blk_frozen HG.out 3
  have hn1000 : n ≤ 1000 := by omega
  have hgW : g + 1 ≤ W.heap.size := by omega
  have hng : ¬ (Value.slice B n cb).ownBlock = some g := fun e => (hob _ e).1 rfl
  have hnw : ¬ (Value.slice B n cb).ownBlock = some gw := fun e => (hob _ e).2.1 rfl
  have hnb : ¬ (Value.slice B n cb).ownBlock = some w.heap.size := fun e => Nat.lt_irrefl _ (hob _ e).2.2
  have c3' := cell_past c3 (.cells #[.int .i64 a.who, .int .u8 a.kind, .int .i64 a.word, .int .u64 (a.old : Int), .int .u64 (a.new : Int), .bool a.done] 196 (0, 0))
  have H10 := Lib.hid h10
  go_cut [] (fun wd => ∃ B' cb', GB w wd F ∧ wd.heap[g]? = some (.cells #[.slice (some ⟨gw, 0, none⟩) ws.length ws.length, .int .i64 clk, .int .i64 ((L.length : Int) + 1), .slice B' (n + 1) cb'] 168 (0, 0)) ∧
    wd.heap[gw]? = some (.cells (vals .u64 ws).toArray 122 (0, 0)) ∧ wd.ownsRow (g + 1) 196 6 (.slice B' (n + 1) cb') (n + 1) (accs ((L ++ [a]).drop k)) ∧ ∀ q, (Value.slice B' (n + 1) cb').ownBlock = some q → F q ∨ w.heap.size ≤ q)
  case first =>
    go_region_law
      ((refine step_app_acc (W.alloc (.cells #[.int .i64 a.who, .int .u8 a.kind, .int .i64 a.word, .int .u64 (a.old : Int), .int .u64 (a.new : Int), .bool a.done] 196)).drew rfl (.tmp 15) (.tmp 17) rfl (g + 1) (by rfl) (own_ext HO.out ((Ext.refl W).alloc _).drew) a (by rfl) (rdD (rd_newk W a.cells _ rfl)) hn1000 (Nat.le_trans hgW (ext_size ((Ext.refl W).alloc _).drew)) ?_; intro B' cb' w6 o6 g6 b6; have G6 : GB w w6 F := (G0.alloc _).drew.grown g6 (fun q e => .inl (h10 q e)); have GW : GB W w6 (fun i => (Value.slice B n cb).ownBlock = some i) := ((GB.refl W _).alloc _).drew.grown g6 (fun q e => .inl e); have s3 := GW.cell c3 hng; have s0 := GW.cell a0 hnb; have s1 := GW.cell a1 hnb; have s2 := GW.cell a2 hnb; have s4 := GW.cell a3 hnb; have s5 := GW.cell a4 hnb; have s6 := GW.cell a5 hnb; have u3 := GW.blk HG.out hng; have uw := GW.blk HW2.out hnw; have f6 := blk_frozen u3 3; have HU3 := Lib.hid u3; have HUW := Lib.hid uw; clear u3 uw))
    all_goals
      go_wp2_with fail
      go_meet
      refine ⟨B', cb', G6.set g 3 _ (.inl h8), blk_set HU3.out 3 _, blk_grown HUW.out (grown_set _ g 3 _) (by omega), ?_, fun q e => ?_⟩
      · rw [List.drop_append_of_le_length (by have := H4.out; omega)]
        refine o6.kept (grown_set _ g 3 _) ?_
        cases hq : (Value.slice B' (n + 1) cb').ownBlock with
        | none => exact .inl rfl
        | some q => exact .inr fun e => by injection e with e; have := (o6.lt q hq).1; omega
      · rw [e] at b6
        rcases b6 with b6 | b6
        · exact .inl (H10.out q b6.symm)
        · injection b6 with b6
          rw [b6]
          exact .inr (Nat.le_of_lt (Nat.lt_of_lt_of_le hsW (ext_size ((Ext.refl W).alloc _).drew)))
  case rest =>
    obtain ⟨B', cb', G7, u1, u2, u3, u4⟩ := hcut
    have c3 : wc.cell? ⟨g, 3, none⟩ = some (.slice B' (n + 1) cb') := blk_cell u1 3
    have f3 := blk_frozen u1 3
    have hlen : ((L ++ [a]).length : Int) = (L.length : Int) + 1 := by simp
    have U1 := Lib.hid u1; have U2 := Lib.hid u2; have U3 := Lib.hid u3; have U4 := Lib.hid u4
    clear u1 u2 u3 u4
    by_cases hb : n + 1 ≤ 128
    · go_wp2_with fail
      go_end0
      exact ⟨rfl, mach_mk G7 (by rw [hlen]; exact U1.out) U2.out U3.out (by simp; have := H4.out; omega) hb (by rcases h6 with h6 | h6 <;> omega) h7 h8 h9 U4.out h11⟩
    · obtain rfl : n = 128 := by omega
      have hcap : 129 ≤ cb' := own_cap U3.out
      obtain ⟨A', hsl, hrd, hblk, _⟩ := slice_from_s Try.underlying166 size_acc (A := B') (n := 129) (c := cb') (m := 64) (d := cb' - 65) 65 (ki := 65) rfl hcap rfl (by omega)
      have hr0 : Rd wc B' (accs ((L ++ [a]).drop k)) := by
        intro hne
        obtain ⟨q, rfl, _, _⟩ := own_block U3.out (by omega)
        exact ⟨q, 0, rfl, fun j u hu => by rw [Nat.zero_add, U3.out.cellAt j (by have := (List.getElem?_eq_some_iff.1 hu).1; have := U3.out.1; omega)]; exact hu⟩
      have hr1 : Rd wc A' (accs ((L ++ [a]).drop (65 + k))) := by
        have := hrd wc _ U3.out.1 hr0
        rwa [← accs_drop, List.drop_drop, Nat.add_comm k] at this
      have hl1 : ((L ++ [a]).drop (65 + k)).length = 64 := by have := H4.out; simp; omega
      have CL := Lib.hid (cloneA_n A' 64 (cb' - 65) _ wc.drew hl1 (by omega) hr1)
      have Hl1 := Lib.hid hl1
      have hw65 : IntKind.i64.wrap 65 = 65 := by decide
      clear hr0 hr1 hrd hl1 hblk
      go_upto_region 4 with fail
      go_region_with (go_at_call 112; go_must (refine CL.out.mono ?_); go_must (rintro e w8 ⟨A8, c8, rfl, o8, x8⟩); go_must (have f8 := blk_frozen (blk_ext U1.out ((Ext.refl wc).drew.trans x8)) 3); go_must (have k8 : w8.cell? ⟨g, 3, none⟩ = some (.slice B' 129 cb') := blk_cell (blk_ext U1.out ((Ext.refl wc).drew.trans x8)) 3))
      all_goals
        go_wp2_with fail
        go_end0
        have x8' : Ext wc w8 := (Ext.refl wc).drew.trans x8
        have hgu : g < wc.heap.size := blk_lt U1.out
        refine ⟨rfl, mach_mk (k := 65 + k) ((G7.ext x8').set g 3 _ (.inl h8)) (by rw [hlen]; exact blk_set (blk_ext U1.out x8') 3 _) (blk_grown (blk_ext U2.out x8') (grown_set _ g 3 _) (by omega)) ?_ (by simp; have := H4.out; omega) (by omega) (.inr (by omega)) h7 h8 h9 (fun q e => .inr ?_) h11⟩
        · refine (own_base o8 (Nat.le_trans hgu (Nat.le_refl _))).kept (grown_set _ g 3 _) ?_
          cases hq : (Value.slice A8 64 c8).ownBlock with
          | none => exact .inl rfl
          | some q => exact .inr fun e => by injection e with e; have h1 := (o8.lt q hq).1; have h2 : wc.drew.heap.size = wc.heap.size := rfl; omega
        · have h1 := (o8.lt q e).1
          have h2 : wc.drew.heap.size = wc.heap.size := rfl
          have h3 := G7.size
          omega
end Go.Proofs.Ytlgggeeflomelaa
