/- mach: worker, size, Count; slices.Clone of accesses; what a machine is in memory. -/
import Derived.Test.YtlgggeeflomelaaProg
import Derived.Test.YtlgggeeflomelaaMchPlain
import Derived.Outline
import Derived.BigQuiet
import Derived.WalkLawsBesides
namespace Go.Proofs.Ytlgggeeflomelaa
open Go.RowKit

theorem info_acc : (Try.prog.info? 196).map (fun i => (i.zero, i.size, i.bytes)) = some (some (.agg #[.int .i64 0, .int .u8 0, .int .i64 0, .int .u64 0, .int .u64 0, .bool false]), 6, 48) := by kernel_rfl
theorem size_acc : ∀ u : World, (sizeOf 196).run Try.prog u = .ok 6 u := fun _ => by kernel_rfl
theorem worker_any (w : World) (a b n : Int) : Calls Try.prog 85 #[.int .i64 a, .int .i64 b, .int .i64 n] w fun e w' => e = .returned (.int .i64 (if 0 ≤ a ∧ a < 64 ∧ 0 ≤ b ∧ b < n then 0 else 1)) ∧ w = w' := by
  by_cases h1 : a < 0
  · rw [if_neg (by omega)]
    go_enter Try.func85, Try.ntmps85
    go_wp2
    go_ret
    exact ⟨rfl, rfl⟩
  · by_cases h2 : 64 ≤ a
    · rw [if_neg (by omega)]
      go_enter Try.func85, Try.ntmps85
      go_wp2
      go_ret
      exact ⟨rfl, rfl⟩
    · by_cases h3 : b < 0
      · rw [if_neg (by omega)]
        go_enter Try.func85, Try.ntmps85
        go_wp2
        go_ret
        exact ⟨rfl, rfl⟩
      · by_cases h4 : n ≤ b
        · rw [if_neg (by omega)]
          go_enter Try.func85, Try.ntmps85
          go_wp2
          go_ret
          exact ⟨rfl, rfl⟩
        · rw [if_pos (by omega)]
          go_enter Try.func85, Try.ntmps85
          go_wp2
          go_ret
          exact ⟨rfl, rfl⟩
/-- a machine in memory: its words, its clock, what it has done; F: its blocks -/
def MachAt (w : World) (F : Nat → Prop) (g : Nat) (ws : List Nat) (clk : Int) (L : List AccE) : Prop :=
  ∃ (gw : Nat) (B : Option Addr) (n cb k : Nat), w.heap[g]? = some (.cells #[.slice (some ⟨gw, 0, none⟩) ws.length ws.length, .int .i64 clk, .int .i64 (L.length : Int), .slice B n cb] 168 (0, 0)) ∧
    w.heap[gw]? = some (.cells (vals .u64 ws).toArray 122 (0, 0)) ∧ w.ownsRow (g + 1) 196 6 (.slice B n cb) n (accs (L.drop k)) ∧
    n + k = L.length ∧ n ≤ 128 ∧ (k = 0 ∨ 64 ≤ n) ∧ gw < g ∧ F g ∧ F gw ∧ (∀ q, (Value.slice B n cb).ownBlock = some q → F q) ∧ ∀ i, F i → i < w.heap.size
/-- a machine that went on -/
def MachGo (w : World) (F : Nat → Prop) (g : Nat) (ws : List Nat) (clk : Int) (L : List AccE) (w' : World) : Prop :=
  ∃ F', MachAt w' F' g ws clk L ∧ GB w w' F ∧ ∀ i, F' i → F i ∨ w.heap.size ≤ i
theorem MachAt.gb {w w' : World} {F S : Nat → Prop} {g : Nat} {ws : List Nat} {clk : Int} {L : List AccE} (h : MachAt w F g ws clk L) (k : GB w w' S) (hs : ∀ i, F i → ¬ S i) : MachAt w' F g ws clk L := by
  obtain ⟨gw, B, n, cb, kk, h1, h2, h3, h4, h5, h6, h7, h8, h9, h10, h11⟩ := h
  exact ⟨gw, B, n, cb, kk, k.blk h1 (hs _ h8), k.blk h2 (hs _ h9), k.own h3 (fun q e => hs _ (h10 q e)), h4, h5, h6, h7, h8, h9, h10, fun i hi => Nat.lt_of_lt_of_le (h11 i hi) k.size⟩
theorem MachAt.ext {w w' : World} {F : Nat → Prop} {g : Nat} {ws : List Nat} {clk : Int} {L : List AccE} (h : MachAt w F g ws clk L) (k : Ext w w') : MachAt w' F g ws clk L := h.gb (GB.of_ext (fun _ => False) k) (fun _ _ => id)
theorem msize_any (w : World) (F : Nat → Prop) (g : Nat) (ws : List Nat) (clk : Int) (L : List AccE) (h : MachAt w F g ws clk L) :
    Calls Try.prog 86 #[.pointer (some ⟨g, 0, none⟩)] w fun e w' => e = .returned (.int .i64 (ws.length : Int)) ∧ w = w' := by
  obtain ⟨gw, B, n, cb, kk, h1, _⟩ := h
  have b0 := blk_cell h1 0
  clear h1
  go_enter Try.func86, Try.ntmps86
  go_wp2
  go_ret
  exact ⟨rfl, rfl⟩
theorem own0A (w : World) : (w.alloc (.cells #[] 196)).ownsRow w.heap.size 196 6 (.slice (some ⟨w.heap.size, 0, none⟩) 0 0) 0 (accs []) := own_made w [] 196 6 0 rfl (Nat.zero_le _) (Nat.le_refl _)
/-- new memory that holds so many accesses -/
def RetA (L : List AccE) (w : World) (e : Ending) (w' : World) : Prop :=
  ∃ A c, e = .returned (.slice A L.length c) ∧ w'.ownsRow w.heap.size 196 6 (.slice A L.length c) L.length (accs L) ∧ Ext w w'
theorem nilqA (w : World) (A : Option Addr) (n c n' c' : Nat) : (binOp .eql 166 (.slice A n c) (.slice none n' c')).run Try.prog w = .ok (.bool A.isNone) w := Lib.run_eql_slice_nil w _ _ A n c n' c' Try.underlying166
/-- append of accesses onto a list of the call's own -/
theorem app_acc {ops : Array Oper} {rest : List Oper} {o : Oper} {a : Act} {Q : Exit → Act → World → Prop} (w : World) (hgd : o.guard = none) (s x : Operand)
    (ho : o.op = .call { callee := .builtin .append, args := #[s, x], argTypes := #[166, 166] })
    (base : Nat) {B : Option Addr} {n cb : Nat} {xs : List AccE} (hs : a.eval s = .slice B n cb) (hown : w.ownsRow base 196 6 (.slice B n cb) n (accs xs))
    {A : Option Addr} {m c : Nat} {news : List AccE} (hx : a.eval x = .slice A m c) (hl : news.length = m) (hr : Rd w A (accs news)) (hb : n + m ≤ 1000000000) (hbase : base ≤ w.heap.size)
    (h : ∀ B' cb' w', w'.ownsRow base 196 6 (.slice B' (n + m) cb') (n + m) (accs (xs ++ news)) → w.grownBy w' (Value.slice B n cb).ownBlock →
      ((Value.slice B' (n + m) cb').ownBlock = (Value.slice B n cb).ownBlock ∨ (Value.slice B' (n + m) cb').ownBlock = some w.heap.size) → wpList Try.prog ops Q rest (a.put o.dst (.slice B' (n + m) cb')) w') :
    wpList Try.prog ops Q (o :: rest) a w := by
  obtain ⟨i0, hi, hz0, hz1, hz2⟩ := info_parts info_acc
  refine wpList_append_rd w hgd s x 166 ho base 196 Try.underlying166 hi hz0 hz1 hz2 rfl (by decide) hs hown hx (by rw [accs_len, hl]) hr (accs_one _) (by unfold maxLen; omega) (by omega) hbase ?_
  intro B' cb' w' h2 h3 h4
  rw [← accs_app] at h2
  exact h B' cb' w' h2 h3 h4
set_option maxHeartbeats 400000 in
theorem cloneA_any (A : Option Addr) (n c : Nat) (L : List AccE) (w : World) (hl : L.length = n) (hn : n ≤ 1000000) (hr : Rd w A (accs L)) :
    Calls Try.prog 112 #[.slice A n c] w (RetA L w) := by
  have Hl := Lib.hid hl
  have Hr := Lib.hid hr
  have q := nilqA
  cases A with
  | none =>
    have h0 : L = [] := by
      cases L with
      | nil => rfl
      | cons a L =>
        obtain ⟨b, off, hA, _⟩ := hr (by rw [accs_cons]; simp [AccE.cells])
        cases hA
    subst h0
    clear hl hr
    obtain rfl : n = 0 := by have := Hl.out; simpa using this.symm
    go_enter Try.func112, Try.ntmps112
    go_wp2
    go_ret
    exact ⟨none, 0, rfl, World.ownsRow_nil _ _ _ _, Ext.refl w⟩
  | some a =>
    clear hl hr
    go_enter Try.func112, Try.ntmps112
    go_wp2_with (at_builtin; refine app_acc _ rfl (.tmp 5) (.tmp 6) rfl w.heap.size rfl (own0A w) rfl Hl.out (Hr.out.alloc _) (by omega) (by simp) ?_; intro A' c' w1 hown hgrow _; simp only [Nat.zero_add, List.nil_append] at hown)
    go_ret
    rw [← Hl.out] at hown ⊢
    exact ⟨A', c', rfl, hown, ((Ext.refl w).alloc _).grown hgrow (by simp [Value.ownBlock])⟩
/-- the same, the number told -/
def RetAn (n : Nat) (L : List AccE) (w : World) (e : Ending) (w' : World) : Prop :=
  ∃ A c, e = .returned (.slice A n c) ∧ w'.ownsRow w.heap.size 196 6 (.slice A n c) n (accs L) ∧ Ext w w'
theorem cloneA_n (A : Option Addr) (n c : Nat) (L : List AccE) (w : World) (hl : L.length = n) (hn : n ≤ 1000000) (hr : Rd w A (accs L)) :
    Calls Try.prog 112 #[.slice A n c] w (RetAn n L w) := by
  refine (cloneA_any A n c L w hl hn hr).mono ?_
  rintro e w' ⟨A', c', rfl, h1, h2⟩
  rw [hl] at h1 ⊢
  exact ⟨A', c', rfl, h1, h2⟩
end Go.Proofs.Ytlgggeeflomelaa
