/- spigotref11: Worker, word, Load, Swap, Clock. -/
import Derived.Test.YtfjgpeffhbfihaaNum3
import Derived.Test.YtfjgpeffhbfihaaMchPlain
import Derived.Deep.RegionHeld3
import Derived.Deep.DeepCutAuto
import Derived.Deep.DeepMust
namespace Go.Proofs.Ytfjgpeffhbfihaa
open Go.RowKit

theorem info_racc : (Try.prog.info? 151).map (fun i => (i.zero, i.size, i.bytes)) = some (some (.agg #[.int .i64 0, .int .u8 0, .int .i64 0, .int .u64 0, .int .u64 0, .bool false]), 6, 48) := by kernel_rfl
/-- the document's machine in memory; F: its blocks -/
def RefAt (w : World) (F : Nat → Prop) (g : Nat) (ws : List Nat) (clk : Int) (L : List AccE) : Prop :=
  ∃ (gw : Nat) (B : Option Addr) (cb : Nat), w.heap[g]? = some (.cells #[.slice (some ⟨gw, 0, none⟩) ws.length ws.length, .int .i64 clk, .slice B L.length cb] 117 (0, 0)) ∧
    w.heap[gw]? = some (.cells (vals .u64 ws).toArray 28 (0, 0)) ∧ w.ownsRow (g + 1) 151 6 (.slice B L.length cb) L.length (accs L) ∧
    gw < g ∧ F g ∧ F gw ∧ (∀ q, (Value.slice B L.length cb).ownBlock = some q → F q) ∧ ∀ i, F i → i < w.heap.size
def RefGo (w : World) (F : Nat → Prop) (g : Nat) (ws : List Nat) (clk : Int) (L : List AccE) (w' : World) : Prop :=
  ∃ F', RefAt w' F' g ws clk L ∧ GB w w' F ∧ ∀ i, F' i → F i ∨ w.heap.size ≤ i
theorem RefAt.gb {w w' : World} {F S : Nat → Prop} {g : Nat} {ws : List Nat} {clk : Int} {L : List AccE} (h : RefAt w F g ws clk L) (k : GB w w' S) (hs : ∀ i, F i → ¬ S i) : RefAt w' F g ws clk L := by
  obtain ⟨gw, B, cb, h1, h2, h3, h4, h5, h6, h7, h8⟩ := h
  exact ⟨gw, B, cb, k.blk h1 (hs _ h5), k.blk h2 (hs _ h6), k.own h3 (fun q e => hs _ (h7 q e)), h4, h5, h6, h7, fun i hi => Nat.lt_of_lt_of_le (h8 i hi) k.size⟩
theorem RefAt.ext {w w' : World} {F : Nat → Prop} {g : Nat} {ws : List Nat} {clk : Int} {L : List AccE} (h : RefAt w F g ws clk L) (k : Ext w w') : RefAt w' F g ws clk L := h.gb (GB.of_ext (fun _ => False) k) (fun _ _ => id)
theorem ref_mk {w W : World} {F : Nat → Prop} {g gw cb l : Nat} {ws : List Nat} {clk : Int} {L : List AccE} {B : Option Addr} (hl : L.length = l) (h : GB w W F)
    (h1 : W.heap[g]? = some (.cells #[.slice (some ⟨gw, 0, none⟩) ws.length ws.length, .int .i64 clk, .slice B l cb] 117 (0, 0)))
    (h2 : W.heap[gw]? = some (.cells (vals .u64 ws).toArray 28 (0, 0))) (h3 : W.ownsRow (g + 1) 151 6 (.slice B l cb) l (accs L))
    (h7 : gw < g) (h8 : F g) (h9 : F gw) (h10 : ∀ q, (Value.slice B l cb).ownBlock = some q → F q ∨ w.heap.size ≤ q) (h11 : ∀ i, F i → i < w.heap.size) : RefGo w F g ws clk L W := by
  subst hl
  refine ⟨fun i => F i ∨ (Value.slice B L.length cb).ownBlock = some i, ⟨gw, B, cb, h1, h2, h3, h7, .inl h8, .inl h9, fun q e => .inr e, fun i hi => ?_⟩, h, fun i hi => ?_⟩
  · rcases hi with hi | hi
    · exact Nat.lt_of_lt_of_le (h11 i hi) h.size
    · exact (h3.lt i hi).2
  · rcases hi with hi | hi
    · exact .inl hi
    · exact h10 i hi
theorem rworker_any (w : World) (a : Int) : Calls Try.prog 59 #[.int .i64 a] w fun e w' => e = .returned (.bool (decide (0 ≤ a ∧ a < 64))) ∧ w = w' := by
  by_cases h1 : 0 ≤ a
  · by_cases h2 : a < 64
    · rw [decide_eq_true (by omega : 0 ≤ a ∧ a < 64)]
      go_enter Try.func59, Try.ntmps59
      go_wp2
      go_ret
      exact ⟨rfl, rfl⟩
    · rw [decide_eq_false (by omega : ¬ (0 ≤ a ∧ a < 64))]
      go_enter Try.func59, Try.ntmps59
      go_wp2
      go_ret
      exact ⟨rfl, rfl⟩
  · rw [decide_eq_false (by omega : ¬ (0 ≤ a ∧ a < 64))]
    go_enter Try.func59, Try.ntmps59
    go_wp2
    go_ret
    exact ⟨rfl, rfl⟩
theorem rword_nil (w : World) (a : Int) : Calls Try.prog 67 #[.pointer none, .int .i64 a] w fun e w' => e = .returned (.bool false) ∧ w = w' := by
  go_enter Try.func67, Try.ntmps67
  go_wp2
  go_ret
  exact ⟨rfl, rfl⟩
theorem rword_at (w : World) (F : Nat → Prop) (g : Nat) (ws : List Nat) (clk : Int) (L : List AccE) (a : Int) (h : RefAt w F g ws clk L) : Calls Try.prog 67 #[.pointer (some ⟨g, 0, none⟩), .int .i64 a] w fun e w' => e = .returned (.bool (decide (0 ≤ a ∧ a < (ws.length : Int)))) ∧ w = w' := by
  obtain ⟨gw, B, cb, k1, _⟩ := h
  have b0 := blk_cell k1 0
  clear k1
  by_cases h1 : 0 ≤ a
  · by_cases h2 : a < (ws.length : Int)
    · rw [decide_eq_true (by omega : 0 ≤ a ∧ a < (ws.length : Int))]
      go_enter Try.func67, Try.ntmps67
      go_wp2
      go_ret
      exact ⟨rfl, rfl⟩
    · rw [decide_eq_false (by omega : ¬ (0 ≤ a ∧ a < (ws.length : Int)))]
      go_enter Try.func67, Try.ntmps67
      go_wp2
      go_ret
      exact ⟨rfl, rfl⟩
  · rw [decide_eq_false (by omega : ¬ (0 ≤ a ∧ a < (ws.length : Int)))]
    go_enter Try.func67, Try.ntmps67
    go_wp2
    go_ret
    exact ⟨rfl, rfl⟩
theorem wp_app_racc {o : Oper} {a : Act} {K : Act → World → Prop} {Q : Exit → Act → World → Prop} (w : World) (s x : Operand)
    (ho : o.op = .call { callee := .builtin .append, args := #[s, x], argTypes := #[115, 115] })
    (base : Nat) {B : Option Addr} {n cb : Nat} {xs : List AccE} (hs : a.eval s = .slice B n cb) (hown : w.ownsRow base 151 6 (.slice B n cb) n (accs xs))
    {A : Option Addr} {c : Nat} (y : AccE) (hx : a.eval x = .slice A 1 c) (hr : Rd w A y.cells) (hb : n ≤ 1000000) (hbase : base ≤ w.heap.size)
    (h : ∀ B' cb' w', w'.ownsRow base 151 6 (.slice B' (n + 1) cb') (n + 1) (accs (xs ++ [y])) → w.grownBy w' (Value.slice B n cb).ownBlock →
      ((Value.slice B' (n + 1) cb').ownBlock = (Value.slice B n cb).ownBlock ∨ (Value.slice B' (n + 1) cb').ownBlock = some w.heap.size) → K (a.put o.dst (.slice B' (n + 1) cb')) w') :
    Oper.wp Try.prog o a w K Q := by
  obtain ⟨i0, hi, hz0, hz1, hz2⟩ := info_parts info_racc
  exact wp_append_rd w s x 115 ho base 151 Try.underlying115 hi hz0 hz1 hz2 rfl (by decide) hs hown hx (m := 1) (news := y.cells) rfl hr (by rw [← accs_one']; exact accs_one _) (by unfold maxLen; omega) (by omega) hbase
    fun B' cb' w' h2 h3 h4 => h B' cb' w' (by rw [accs_app, accs_one']; exact h2) h3 h4
theorem step_app_racc {ops : Array Oper} {o : Oper} {a : Act} {K : Act → World → Prop} {Q : Exit → Act → World → Prop} {E : Prop} (w : World) (hgd : o.guard = none) (s x : Operand)
    (ho : o.op = .call { callee := .builtin .append, args := #[s, x], argTypes := #[115, 115] })
    (base : Nat) {B : Option Addr} {n cb : Nat} {xs : List AccE} (hs : a.eval s = .slice B n cb) (hown : w.ownsRow base 151 6 (.slice B n cb) n (accs xs))
    {A : Option Addr} {c : Nat} (y : AccE) (hx : a.eval x = .slice A 1 c) (hr : Rd w A y.cells) (hb : n ≤ 1000000) (hbase : base ≤ w.heap.size)
    (h : ∀ B' cb' w', w'.ownsRow base 151 6 (.slice B' (n + 1) cb') (n + 1) (accs (xs ++ [y])) → w.grownBy w' (Value.slice B n cb).ownBlock →
      ((Value.slice B' (n + 1) cb').ownBlock = (Value.slice B n cb).ownBlock ∨ (Value.slice B' (n + 1) cb').ownBlock = some w.heap.size) → K (a.put o.dst (.slice B' (n + 1) cb')) w') :
    if Region.wanted o (yielded ops a.tmps) = true then Oper.wp Try.prog o a w K Q else E := by
  have hw : Region.wanted o (yielded ops a.tmps) = true := by simp [Region.wanted, hgd]
  rw [if_pos hw]
  exact wp_app_racc w s x ho base hs hown y hx hr hb hbase h
theorem wpList_app_racc {ops : Array Oper} {rest : List Oper} {o : Oper} {a : Act} {Q : Exit → Act → World → Prop} (w : World) (hgd : o.guard = none) (s x : Operand)
    (ho : o.op = .call { callee := .builtin .append, args := #[s, x], argTypes := #[115, 115] })
    (base : Nat) {B : Option Addr} {n cb : Nat} {xs : List AccE} (hs : a.eval s = .slice B n cb) (hown : w.ownsRow base 151 6 (.slice B n cb) n (accs xs))
    {A : Option Addr} {c : Nat} (y : AccE) (hx : a.eval x = .slice A 1 c) (hr : Rd w A y.cells) (hb : n ≤ 1000000) (hbase : base ≤ w.heap.size)
    (h : ∀ B' cb' w', w'.ownsRow base 151 6 (.slice B' (n + 1) cb') (n + 1) (accs (xs ++ [y])) → w.grownBy w' (Value.slice B n cb).ownBlock →
      ((Value.slice B' (n + 1) cb').ownBlock = (Value.slice B n cb).ownBlock ∨ (Value.slice B' (n + 1) cb').ownBlock = some w.heap.size) → wpList Try.prog ops Q rest (a.put o.dst (.slice B' (n + 1) cb')) w') :
    wpList Try.prog ops Q (o :: rest) a w :=
  wpList_plain hgd fun _ hK => wp_app_racc w s x ho base hs hown y hx hr hb hbase fun B' cb' w' h2 h3 h4 => hK _ _ (h B' cb' w' h2 h3 h4)
/-- behind an append and the store of the list -/
theorem ref_put {w w1 w6 : World} {F : Nat → Prop} {g gw l cb cb' : Nat} {ws : List Nat} {clk : Int} {L : List AccE} {a : AccE} {B B' : Option Addr}
    (h1 : w.heap[g]? = some (.cells #[.slice (some ⟨gw, 0, none⟩) ws.length ws.length, .int .i64 clk, .slice B l cb] 117 (0, 0)))
    (h2 : w.heap[gw]? = some (.cells (vals .u64 ws).toArray 28 (0, 0))) (h3 : w.ownsRow (g + 1) 151 6 (.slice B l cb) l (accs L)) (hl : L.length = l)
    (h7 : gw < g) (h8 : F g) (h9 : F gw) (h10 : ∀ q, (Value.slice B l cb).ownBlock = some q → F q) (h11 : ∀ i, F i → i < w.heap.size)
    (x : Ext w w1) (o6 : w6.ownsRow (g + 1) 151 6 (.slice B' (l + 1) cb') (l + 1) (accs (L ++ [a]))) (g6 : w1.grownBy w6 (Value.slice B l cb).ownBlock)
    (b6 : (Value.slice B' (l + 1) cb').ownBlock = (Value.slice B l cb).ownBlock ∨ (Value.slice B' (l + 1) cb').ownBlock = some w1.heap.size) :
    RefGo w F g ws clk (L ++ [a]) (w6.setCell ⟨g, 2, none⟩ (.slice B' (l + 1) cb')) := by
  have hne : ∀ r, r ≤ g → (Value.slice B l cb).ownBlock ≠ some r := fun r hr e => by have := (h3.lt r e).1; omega
  have G6 : GB w w6 F := (GB.of_ext F x).grown g6 (fun q e => .inl (h10 q e))
  have k1 := (g6.block g (Nat.lt_of_lt_of_le (blk_lt h1) x.size) (fun e => hne g (Nat.le_refl _) e.symm)).trans (blk_ext h1 x)
  have k2 := (g6.block gw (Nat.lt_of_lt_of_le (blk_lt h2) x.size) (fun e => hne gw (Nat.le_of_lt h7) e.symm)).trans (blk_ext h2 x)
  refine ref_mk (by simp [hl]) (G6.set g 2 _ (.inl h8)) (blk_set k1 2 _) (blk_grown k2 (grown_set _ g 2 _) (by omega)) ?_ h7 h8 h9 (fun q e => ?_) h11
  · refine o6.kept (grown_set _ g 2 _) ?_
    cases hq : (Value.slice B' (l + 1) cb').ownBlock with
    | none => exact .inl rfl
    | some q => exact .inr fun e => by injection e with e; have := (o6.lt q hq).1; omega
  · rw [e] at b6
    rcases b6 with b6 | b6
    · exact .inl (h10 q b6.symm)
    · injection b6 with b6
      exact .inr (by rw [b6]; exact x.size)
end Go.Proofs.Ytfjgpeffhbfihaa
