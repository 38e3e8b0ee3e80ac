/- Words and small lemmas of my own: slices that read as lists of numbers. No program in sight. -/
import Derived.WalkKit
import Derived.Lib.Hide
import Derived.Maps.AppendAt
import Derived.Deep.Draws
namespace Go.Proofs.Ythkdjjfnmlemdaa
open Go.RowKit

/-- the numbers of a list as values of a kind -/
def vals (k : IntKind) (xs : List Nat) : List Value := xs.map fun (x : Nat) => Value.int k (x : Int)

theorem vals_get {k : IntKind} {xs : List Nat} {j x : Nat} (h : xs[j]? = some x) : (vals k xs)[j]? = some (.int k (x : Int)) := by
  simp [vals, h]
theorem vals_len (k : IntKind) (xs : List Nat) : (vals k xs).length = xs.length := by simp [vals]
theorem vals_append (k : IntKind) (xs ys : List Nat) : vals k (xs ++ ys) = vals k xs ++ vals k ys := by simp [vals]
theorem vals_one (k : IntKind) (xs : List Nat) : ∀ u ∈ vals k xs, u.oneCell' = true := by
  intro u hu
  obtain ⟨_, _, rfl⟩ := List.mem_map.1 hu
  rfl

/-- the cells of a slice value's elements read as vs -/
def Rd (w : World) (A : Option Addr) (vs : List Value) : Prop :=
  vs ≠ [] → ∃ b off, A = some ⟨b, off, none⟩ ∧ ∀ j u, vs[j]? = some u → w.cell? ⟨b, off + j, none⟩ = some u

theorem Rd.at_ {w : World} {A : Option Addr} {k : IntKind} {xs : List Nat} {j x : Nat} (h : Rd w A (vals k xs)) (hx : xs[j]? = some x) :
    ∃ b off, A = some ⟨b, off, none⟩ ∧ b < w.heap.size ∧ w.cell? ⟨b, off + j, none⟩ = some (.int k (x : Int)) := by
  obtain ⟨b, off, hA, hc⟩ := h (by intro e; have := vals_get (k := k) hx; rw [e] at this; simp at this)
  have := hc j _ (vals_get hx)
  exact ⟨b, off, hA, World.block_lt_of_cell? w _ this, this⟩

theorem get_of_lt {xs : List Nat} {j : Nat} (h : j < xs.length) : ∃ x, xs[j]? = some x := ⟨_, List.getElem?_eq_getElem h⟩
theorem take_succ_of {α : Type} {xs : List α} {k : Nat} {x : α} (h : xs[k]? = some x) : xs.take (k + 1) = xs.take k ++ [x] := by
  rw [List.take_add_one, h]; rfl

theorem Rd.keep {w w' : World} {A : Option Addr} {vs : List Value} (h : Rd w A vs) (hk : ∀ p : Addr, p.block < w.heap.size → w'.cell? p = w.cell? p) : Rd w' A vs := by
  intro hne
  obtain ⟨b, off, hA, hc⟩ := h hne
  exact ⟨b, off, hA, fun j u hu => (hk _ (World.block_lt_of_cell? w _ (hc j u hu))).trans (hc j u hu)⟩
theorem Rd.below {w w' : World} {A : Option Addr} {vs : List Value} (h : Rd w A vs) (hb : Below w.heap.size w w') : Rd w' A vs := h.keep fun _ hp => hb.cell hp
theorem Rd.drewN {w : World} {A : Option Addr} {vs : List Value} (h : Rd w A vs) (n : Nat) : Rd (w.drewN n) A vs := h
theorem Rd.nil (w : World) (A : Option Addr) : Rd w A [] := fun h => absurd rfl h

/-- two lists read at one place are one where their lengths are -/
theorem Rd.of_own {w : World} {base : Nat} {e : TypeId} {A : Option Addr} {n c : Nat} {vs : List Value} (h : w.ownsRow base e 1 (.slice A n c) n vs) : Rd w A vs := by
  intro hne
  rcases h.2 with ⟨h1, h2⟩ | ⟨g, cap, cur, h1, _⟩
  · have := h.1; rw [h2] at this; simp at this; exact absurd this hne
  · injection h1 with h1 _ _
    subst h1
    refine ⟨g, 0, rfl, fun j u hu => ?_⟩
    have := h.cells (g := g) rfl j u hu
    rw [Addr.add_lit] at this
    simpa using this

theorem ret_int {k : IntKind} {a b : Int} (h : a = b) : Ending.returned (.int k a) = Ending.returned (.int k b) := by rw [h]
theorem ret_bool {a b : Bool} (h : a = b) : Ending.returned (.bool a) = Ending.returned (.bool b) := by rw [h]
theorem ret_t2 {a b c d : Value} (h : a = b) (h' : c = d) : Ending.returned (.tuple #[a, c]) = Ending.returned (.tuple #[b, d]) := by rw [h, h']
theorem ret_t3 {a b c d e f : Value} (h : a = b) (h' : c = d) (h'' : e = f) : Ending.returned (.tuple #[a, c, e]) = Ending.returned (.tuple #[b, d, f]) := by rw [h, h', h'']
theorem int_eq {k : IntKind} {a b : Int} (h : a = b) : Value.int k a = Value.int k b := by rw [h]
theorem bool_eq {a b : Bool} (h : a = b) : Value.bool a = Value.bool b := by rw [h]

/-- nothing that was there has turned -/
def Ext (w w' : World) : Prop := Below w.heap.size w w'
theorem Ext.refl (w : World) : Ext w w := Below.refl _ _
theorem Ext.trans {a b c : World} (h : Ext a b) (k : Ext b c) : Ext a c := Below.trans h (Below.mono k h.size)
theorem Ext.alloc {a b : World} (h : Ext a b) (o : Obj) : Ext a (b.alloc o) := Below.alloc h h.size o
theorem Ext.drew {a b : World} (h : Ext a b) : Ext a b.drew := Below.drew h
theorem Ext.drewN {a b : World} (h : Ext a b) (n : Nat) : Ext a (b.drewN n) := ⟨h.os, h.tape, h.output, h.size, h.block⟩
theorem Ext.setCell {a b : World} (h : Ext a b) {p : Addr} (hp : a.heap.size ≤ p.block) (u : Value) : Ext a (b.setCell p u) := Below.setCell h hp u
theorem Ext.grown {a b c : World} (h : Ext a b) {row : Option Nat} (hg : b.grownBy c row) (hr : ∀ k, row = some k → a.heap.size ≤ k) : Ext a c := Below.grown h hg h.size hr
theorem Rd.ext {w w' : World} {A : Option Addr} {vs : List Value} (h : Rd w A vs) (hb : Ext w w') : Rd w' A vs := h.below hb
theorem Rd.alloc {w : World} {A : Option Addr} {vs : List Value} (h : Rd w A vs) (o : Obj) : Rd (w.alloc o) A vs := h.ext ((Ext.refl w).alloc o)
theorem Rd.grown {w w' : World} {A : Option Addr} {vs : List Value} (h : Rd w A vs) {row : Option Nat} (hg : w.grownBy w' row) (hr : ∀ a, A = some a → row ≠ some a.block) : Rd w' A vs := by
  intro hne
  obtain ⟨b, off, hA, hc⟩ := h hne
  exact ⟨b, off, hA, fun j u hu => hg.cell (hc j u hu) (fun e => hr _ hA e.symm)⟩
theorem own_ext {w w' : World} {base : Nat} {e : TypeId} {size : Nat} {v : Value} {n : Nat} {xs : List Value} (h : w.ownsRow base e size v n xs) (hb : Ext w w') : w'.ownsRow base e size v n xs := by
  refine ⟨h.1, ?_⟩
  rcases h.2 with hn | ⟨g, cap, cur, rfl, hbg, hgg, rest⟩
  · exact .inl hn
  · exact .inr ⟨g, cap, cur, rfl, hbg, by rw [hb.block g (Array.getElem?_eq_some_iff.1 hgg).1]; exact hgg, rest⟩
theorem own_base {w : World} {base base' : Nat} {e : TypeId} {size : Nat} {v : Value} {n : Nat} {xs : List Value} (h : w.ownsRow base e size v n xs) (hb : base' ≤ base) : w.ownsRow base' e size v n xs := by
  refine ⟨h.1, ?_⟩
  rcases h.2 with hn | ⟨g, cap, cur, rfl, hbg, rest⟩
  · exact .inl hn
  · exact .inr ⟨g, cap, cur, rfl, by omega, rest⟩
theorem own_form {w : World} {base : Nat} {e : TypeId} {size : Nat} {v : Value} {n : Nat} {xs : List Value} (h : w.ownsRow base e size v n xs) : ∃ A c, v = .slice A n c := by
  rcases h.2 with ⟨rfl, rfl⟩ | ⟨g, cap, cur, rfl, _⟩
  · exact ⟨_, _, rfl⟩
  · exact ⟨_, _, rfl⟩
theorem own_cap {w : World} {base : Nat} {e : TypeId} {size : Nat} {A : Option Addr} {n c : Nat} {xs : List Value} (h : w.ownsRow base e size (.slice A n c) n xs) : n ≤ c := by
  rcases h.2 with ⟨h1, rfl⟩ | ⟨g, cap, cur, h1, _, _, h2, _⟩
  · omega
  · injection h1 with _ _ h1
    omega
theorem own_block {w : World} {base : Nat} {e : TypeId} {size : Nat} {A : Option Addr} {n c : Nat} {xs : List Value} (h : w.ownsRow base e size (.slice A n c) n xs) (hn : 0 < n) :
    ∃ g, A = some ⟨g, 0, none⟩ ∧ base ≤ g ∧ g < w.heap.size := by
  rcases h.2 with ⟨h1, rfl⟩ | ⟨g, cap, cur, h1, h2, h3, _⟩
  · omega
  · injection h1 with h1 _ _
    exact ⟨g, h1, h2, (Array.getElem?_eq_some_iff.1 h3).1⟩
theorem own_ge {w : World} {A : Option Addr} {n c : Nat} {base : Nat} {e : TypeId} {size : Nat} {xs : List Value} (h : w.ownsRow base e size (.slice A n c) n xs) : ∀ k, (Value.slice A n c).ownBlock = some k → base ≤ k := fun k hk => (h.lt k hk).1
theorem own_made (w : World) (cs : List Value) (e : TypeId) (size n : Nat) (hn : cs.length = n * size) (hm : n ≤ maxLen) {base : Nat} (hb : base ≤ w.heap.size) :
    (w.alloc (.cells cs.toArray e)).ownsRow base e size (.slice (some ⟨w.heap.size, 0, none⟩) n n) n cs :=
  ⟨hn, .inr ⟨w.heap.size, n, cs.toArray, rfl, hb, heap_alloc_new w _, Nat.le_refl _, hm, by simpa using hn, by rw [List.take_of_length_le (by simp [hn])]⟩⟩

theorem rd_new (w : World) (cs : List Value) (e : TypeId) : Rd (w.alloc (.cells cs.toArray e)) (some ⟨w.heap.size, 0, none⟩) cs := by
  intro _
  refine ⟨w.heap.size, 0, rfl, fun j u hu => ?_⟩
  rw [Nat.zero_add, World.cell?_alloc_new]
  simpa using hu
theorem drewN_add (w : World) (a b : Nat) : (w.drewN a).drewN b = w.drewN (a + b) := by simp [World.drewN, Nat.add_assoc]

theorem quiet_eq {P : Program} {f : FuncId} {args : Array Value} {w : World} {n : Nat} {v : Value}
    (h : Calls P f args (w.drewN n) fun e w' => e = .returned v ∧ w.drewN n = w') : Calls P f args (w.drewN n) fun e w'' => e = .returned v ∧ ∃ m, w'' = w.drewN m :=
  h.mono fun _ _ ⟨he, hm⟩ => ⟨he, n, hm.symm⟩
theorem quiet_q {P : Program} {f : FuncId} {args : Array Value} {w : World} {n : Nat} {v : Value}
    (h : Calls P f args (w.drewN n) fun e w' => e = .returned v ∧ ∃ q, w' = (w.drewN n).drewN q) : Calls P f args (w.drewN n) fun e w'' => e = .returned v ∧ ∃ m, w'' = w.drewN m :=
  h.mono fun _ _ ⟨he, q, hm⟩ => ⟨he, n + q, by rw [hm, drewN_add]⟩
theorem quiet_add_eq {P : Program} {f : FuncId} {args : Array Value} {w : World} {a n : Nat} {v : Value}
    (h : Calls P f args (w.drewN (a + n)) fun e w' => e = .returned v ∧ w.drewN (a + n) = w') : Calls P f args (w.drewN (a + n)) fun e w'' => e = .returned v ∧ ∃ m, w'' = w.drewN (a + m) :=
  h.mono fun _ _ ⟨he, hm⟩ => ⟨he, n, hm.symm⟩
theorem quiet_add_q {P : Program} {f : FuncId} {args : Array Value} {w : World} {a n : Nat} {v : Value}
    (h : Calls P f args (w.drewN (a + n)) fun e w' => e = .returned v ∧ ∃ q, w' = (w.drewN (a + n)).drewN q) : Calls P f args (w.drewN (a + n)) fun e w'' => e = .returned v ∧ ∃ m, w'' = w.drewN (a + m) :=
  h.mono fun _ _ ⟨he, q, hm⟩ => ⟨he, n + q, by rw [hm, drewN_add, Nat.add_assoc]⟩

theorem slice_from {P : Program} {t e : TypeId} (ht : P.underlying t = some (.slice e)) (hz : ∀ u : World, (sizeOf e).run P u = .ok 1 u) {b off n c m d : Nat} (k : Nat) (h1 : k ≤ n) (h2 : ¬ c = k) (hm : n = m + k) (hd : c = d + k) (u : World) :
    (Instr.slice t (.slice (some ⟨b, off, none⟩) n c) (some (.int .i64 (k : Int))) none none).run P u = .ok (.slice (some ⟨b, off + k, none⟩) m d) u := by
  have he : P.elem t = e := by simp [Program.elem, ht]
  rw [run_slice_l (P := P) u t _ n c (by rw [he]; exact ht) .i64 (k : Int) (by omega) (by omega)]
  rw [he, hz]
  simp only [Result.andThen, sliced, Int.toNat_natCast, if_neg h2, Option.map_some, Addr.add_lit, Nat.mul_one]
  congr 2 <;> omega
theorem slice_to {P : Program} {t e : TypeId} (ht : P.underlying t = some (.slice e)) (hz : ∀ u : World, (sizeOf e).run P u = .ok 1 u) {b off n c : Nat} (k : Nat) (h1 : k ≤ c) (u : World) :
    (Instr.slice t (.slice (some ⟨b, off, none⟩) n c) none (some (.int .i64 (k : Int))) none).run P u = .ok (.slice (some ⟨b, off, none⟩) k c) u := by
  have he : P.elem t = e := by simp [Program.elem, ht]
  rw [run_slice_h (P := P) u t _ n c (by rw [he]; exact ht) .i64 (k : Int) (by omega) (by omega)]
  rw [he, hz]
  simp [Result.andThen, sliced, Int.toNat_natCast, Addr.add]

section
variable {P : Program} (w : World)
theorem run_append_none {base : Nat} {t ty e : TypeId} {i : TypeInfo} {size : Nat} (ht : P.underlying t = some (.slice e)) (hi : P.info? e = some i)
    {v : Value} {n : Nat} {xs : List Value} (hown : w.ownsRow base e size v n xs) (c : Nat) : (Builtin.append_ #[t, t] ty #[v, .slice none 0 c]).run P w = .ok v w := by
  rcases hown.2 with ⟨rfl, rfl⟩ | ⟨g, cap, cur, rfl, _, _, hnc, _⟩
  · simp [Builtin.append_, run_underlying ht, sizeOf, typeInfo, hi, Builtin.lenOf, Builtin.firstCells]
  · simp [Builtin.append_, run_underlying ht, sizeOf, typeInfo, hi, Builtin.lenOf, Builtin.firstCells, hnc, storeCells]

/-- append onto a row of the call's own, of whatever reads as a list -/
theorem run_append_rd {base : Nat} {t ty e : TypeId} {i : TypeInfo} {z : Value} {size bytes : Nat} (ht : P.underlying t = some (.slice e)) (hi : P.info? e = some i) (hz : i.zero = some z)
    (hsize : i.size = size) (hby : i.bytes = bytes) (hzs : z.cells.size = size) (hsz : 0 < size)
    {B : Option Addr} {n cb : Nat} {xs : List Value} (hown : w.ownsRow base e size (.slice B n cb) n xs)
    {A : Option Addr} {m c : Nat} {news : List Value} (hl : news.length = m * size) (hr : Rd w A news) (h1 : ∀ u ∈ news, u.oneCell' = true)
    (h63 : n + m ≤ maxLen) (hbytes : (n + m) * bytes ≤ 140737488355328) (hbase : base ≤ w.heap.size) :
    ∃ B' cb' w', (Builtin.append_ #[t, t] ty #[.slice B n cb, .slice A m c]).run P w = .ok (.slice B' (n + m) cb') w' ∧ w'.ownsRow base e size (.slice B' (n + m) cb') (n + m) (xs ++ news) ∧
      w.grownBy w' (Value.slice B n cb).ownBlock ∧ ((Value.slice B' (n + m) cb').ownBlock = (Value.slice B n cb).ownBlock ∨ (Value.slice B' (n + m) cb').ownBlock = some w.heap.size) := by
  have fin : ∀ v' w', (Builtin.append_ #[t, t] ty #[.slice B n cb, .slice A m c]).run P w = .ok v' w' → w'.ownsRow base e size v' (n + m) (xs ++ news) →
      w.grownBy w' (Value.slice B n cb).ownBlock → (v'.ownBlock = (Value.slice B n cb).ownBlock ∨ v'.ownBlock = some w.heap.size) →
      ∃ B' cb' w', (Builtin.append_ #[t, t] ty #[.slice B n cb, .slice A m c]).run P w = .ok (.slice B' (n + m) cb') w' ∧ w'.ownsRow base e size (.slice B' (n + m) cb') (n + m) (xs ++ news) ∧
      w.grownBy w' (Value.slice B n cb).ownBlock ∧ ((Value.slice B' (n + m) cb').ownBlock = (Value.slice B n cb).ownBlock ∨ (Value.slice B' (n + m) cb').ownBlock = some w.heap.size) := by
    intro v' w' h2 h3 h4 h5
    obtain ⟨B', cb', rfl⟩ := own_form h3
    exact ⟨B', cb', w', h2, h3, h4, h5⟩
  cases A with
  | none =>
    have hn : news = [] := by
      rcases Classical.em (news = []) with h | h
      · exact h
      · obtain ⟨b, off, hA, _⟩ := hr h
        cases hA
    subst hn
    have hm : m = 0 := by
      have h0 : m * size = 0 := by rw [← hl]; rfl
      rcases Nat.mul_eq_zero.1 h0 with h | h
      · exact h
      · omega
    subst hm
    exact fin _ w (run_append_none w ht hi hown c) (by simpa using hown) (World.grownBy.refl w _) (.inl rfl)
  | some a =>
    obtain ⟨v', w', h2, h3, h4, _, h5⟩ := run_append_own_at (P := P) w base t ty e i z size bytes ht hi hz hsize hby hzs hsz _ n xs hown a m c news hl (fun j u hu => by
      obtain ⟨b, off, hA, hc⟩ := hr (by intro e; rw [e] at hu; simp at hu)
      injection hA with hA
      subst hA
      rw [Addr.add_lit]
      exact hc j u hu) h1 h63 hbytes hbase
    exact fin v' w' h2 h3 h4 h5

theorem wp_append_rd {o : Oper} {a : Act} {K : Act → World → Prop} {Q : Exit → Act → World → Prop} (s x : Operand) (t : TypeId)
    (ho : o.op = .call { callee := .builtin .append, args := #[s, x], argTypes := #[t, t] })
    (base : Nat) (e : TypeId) {i : TypeInfo} {z : Value} {size bytes : Nat} (ht : P.underlying t = some (.slice e)) (hi : P.info? e = some i) (hz : i.zero = some z)
    (hsize : i.size = size) (hby : i.bytes = bytes) (hzs : z.cells.size = size) (hsz : 0 < size)
    {B : Option Addr} {n cb : Nat} {xs : List Value} (hs : a.eval s = .slice B n cb) (hown : w.ownsRow base e size (.slice B n cb) n xs)
    {A : Option Addr} {m c : Nat} {news : List Value} (hx : a.eval x = .slice A m c) (hl : news.length = m * size) (hr : Rd w A news) (h1 : ∀ u ∈ news, u.oneCell' = true)
    (h63 : n + m ≤ maxLen) (hbytes : (n + m) * bytes ≤ 140737488355328) (hbase : base ≤ w.heap.size)
    (h : ∀ B' cb' w', w'.ownsRow base e size (.slice B' (n + m) cb') (n + m) (xs ++ news) → w.grownBy w' (Value.slice B n cb).ownBlock →
      ((Value.slice B' (n + m) cb').ownBlock = (Value.slice B n cb).ownBlock ∨ (Value.slice B' (n + m) cb').ownBlock = some w.heap.size) → K (a.put o.dst (.slice B' (n + m) cb')) w') : o.wp P a w K Q := by
  obtain ⟨B', cb', w', hrun, h2, h3, h4⟩ := run_append_rd (P := P) w (ty := o.type) ht hi hz hsize hby hzs hsz hown (c := c) hl hr h1 h63 hbytes hbase
  unfold Oper.wp execOp
  simp only [ho, resolve, invoke, builtin, Sem.run_bind, Sem.run_pure, Result.andThen_ok, List.map_toArray, List.map_cons, List.map_nil, hs, hx, hrun]
  exact h B' cb' w' h2 h3 h4
theorem wpList_append_rd {ops : Array Oper} {rest : List Oper} {o : Oper} {a : Act} {Q : Exit → Act → World → Prop} (hgd : o.guard = none) (s x : Operand) (t : TypeId)
    (ho : o.op = .call { callee := .builtin .append, args := #[s, x], argTypes := #[t, t] })
    (base : Nat) (e : TypeId) {i : TypeInfo} {z : Value} {size bytes : Nat} (ht : P.underlying t = some (.slice e)) (hi : P.info? e = some i) (hz : i.zero = some z)
    (hsize : i.size = size) (hby : i.bytes = bytes) (hzs : z.cells.size = size) (hsz : 0 < size)
    {B : Option Addr} {n cb : Nat} {xs : List Value} (hs : a.eval s = .slice B n cb) (hown : w.ownsRow base e size (.slice B n cb) n xs)
    {A : Option Addr} {m c : Nat} {news : List Value} (hx : a.eval x = .slice A m c) (hl : news.length = m * size) (hr : Rd w A news) (h1 : ∀ u ∈ news, u.oneCell' = true)
    (h63 : n + m ≤ maxLen) (hbytes : (n + m) * bytes ≤ 140737488355328) (hbase : base ≤ w.heap.size)
    (h : ∀ B' cb' w', w'.ownsRow base e size (.slice B' (n + m) cb') (n + m) (xs ++ news) → w.grownBy w' (Value.slice B n cb).ownBlock →
      ((Value.slice B' (n + m) cb').ownBlock = (Value.slice B n cb).ownBlock ∨ (Value.slice B' (n + m) cb').ownBlock = some w.heap.size) → wpList P ops Q rest (a.put o.dst (.slice B' (n + m) cb')) w') :
    wpList P ops Q (o :: rest) a w :=
  wpList_plain hgd fun _ hK => wp_append_rd w s x t ho base e ht hi hz hsize hby hzs hsz hs hown hx hl hr h1 h63 hbytes hbase fun B' cb' w' h2 h3 h4 => hK _ _ (h B' cb' w' h2 h3 h4)
end
end Go.Proofs.Ythkdjjfnmlemdaa
