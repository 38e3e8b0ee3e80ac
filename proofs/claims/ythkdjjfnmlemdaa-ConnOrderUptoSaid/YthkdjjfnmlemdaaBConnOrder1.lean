/- Laid together: what 'ConnOrder' needs, part 1 of 6. -/
import Derived.WalkKit
import Derived.Lib.Hide
import Derived.Maps.AppendAt
import Derived.Deep.Draws
import Derived.Test.YthkdjjfnmlemdaaProg
import Derived.Outline
import Derived.BigQuiet
import Derived.WalkLawsBesides
import Derived.Deep.OwnRows
import Derived.Deep.LoopGhost
import Derived.Deep.RegionWith
import Derived.Deep.RegionLaw
import Derived.Deep.DeepCutAuto
import Derived.Recover
import Derived.Deep.AppendLies
namespace Go.Proofs.Ythkdjjfnmlemdaa

section
open Go.RowKit

/-- the numbers of a list as values of a kind -/
def vals (k : IntKind) (xs : List Nat) : List Value := xs.map fun (x : Nat) => Value.int k (x : Int)

theorem vals_get {k : IntKind} {xs : List Nat} {j x : Nat} (h : xs[j]? = some x) : (vals k xs)[j]? = some (.int k (x : Int)) := by
  simp [vals, h]
theorem vals_len (k : IntKind) (xs : List Nat) : (vals k xs).length = xs.length := by simp [vals]
theorem vals_append (k : IntKind) (xs ys : List Nat) : vals k (xs ++ ys) = vals k xs ++ vals k ys := by simp [vals]
theorem vals_one (k : IntKind) (xs : List Nat) : ∀ u ∈ vals k xs, u.oneCell' = true := by
  intro u hu
  obtain ⟨_, _, rfl⟩ := List.mem_map.1 hu
  rfl

/-- the cells of a slice value's elements read as vs -/
def Rd (w : World) (A : Option Addr) (vs : List Value) : Prop :=
  vs ≠ [] → ∃ b off, A = some ⟨b, off, none⟩ ∧ ∀ j u, vs[j]? = some u → w.cell? ⟨b, off + j, none⟩ = some u

theorem Rd.at_ {w : World} {A : Option Addr} {k : IntKind} {xs : List Nat} {j x : Nat} (h : Rd w A (vals k xs)) (hx : xs[j]? = some x) :
    ∃ b off, A = some ⟨b, off, none⟩ ∧ b < w.heap.size ∧ w.cell? ⟨b, off + j, none⟩ = some (.int k (x : Int)) := by
  obtain ⟨b, off, hA, hc⟩ := h (by intro e; have := vals_get (k := k) hx; rw [e] at this; simp at this)
  have := hc j _ (vals_get hx)
  exact ⟨b, off, hA, World.block_lt_of_cell? w _ this, this⟩

theorem get_of_lt {xs : List Nat} {j : Nat} (h : j < xs.length) : ∃ x, xs[j]? = some x := ⟨_, List.getElem?_eq_getElem h⟩
theorem take_succ_of {α : Type} {xs : List α} {k : Nat} {x : α} (h : xs[k]? = some x) : xs.take (k + 1) = xs.take k ++ [x] := by
  rw [List.take_add_one, h]; rfl

theorem Rd.keep {w w' : World} {A : Option Addr} {vs : List Value} (h : Rd w A vs) (hk : ∀ p : Addr, p.block < w.heap.size → w'.cell? p = w.cell? p) : Rd w' A vs := by
  intro hne
  obtain ⟨b, off, hA, hc⟩ := h hne
  exact ⟨b, off, hA, fun j u hu => (hk _ (World.block_lt_of_cell? w _ (hc j u hu))).trans (hc j u hu)⟩
theorem Rd.below {w w' : World} {A : Option Addr} {vs : List Value} (h : Rd w A vs) (hb : Below w.heap.size w w') : Rd w' A vs := h.keep fun _ hp => hb.cell hp
theorem Rd.drewN {w : World} {A : Option Addr} {vs : List Value} (h : Rd w A vs) (n : Nat) : Rd (w.drewN n) A vs := h
theorem Rd.nil (w : World) (A : Option Addr) : Rd w A [] := fun h => absurd rfl h

/-- two lists read at one place are one where their lengths are -/
theorem Rd.of_own {w : World} {base : Nat} {e : TypeId} {A : Option Addr} {n c : Nat} {vs : List Value} (h : w.ownsRow base e 1 (.slice A n c) n vs) : Rd w A vs := by
  intro hne
  rcases h.2 with ⟨h1, h2⟩ | ⟨g, cap, cur, h1, _⟩
  · have := h.1; rw [h2] at this; simp at this; exact absurd this hne
  · injection h1 with h1 _ _
    subst h1
    refine ⟨g, 0, rfl, fun j u hu => ?_⟩
    have := h.cells (g := g) rfl j u hu
    rw [Addr.add_lit] at this
    simpa using this

theorem ret_int {k : IntKind} {a b : Int} (h : a = b) : Ending.returned (.int k a) = Ending.returned (.int k b) := by rw [h]
theorem ret_bool {a b : Bool} (h : a = b) : Ending.returned (.bool a) = Ending.returned (.bool b) := by rw [h]
theorem ret_t2 {a b c d : Value} (h : a = b) (h' : c = d) : Ending.returned (.tuple #[a, c]) = Ending.returned (.tuple #[b, d]) := by rw [h, h']
theorem ret_t3 {a b c d e f : Value} (h : a = b) (h' : c = d) (h'' : e = f) : Ending.returned (.tuple #[a, c, e]) = Ending.returned (.tuple #[b, d, f]) := by rw [h, h', h'']
theorem int_eq {k : IntKind} {a b : Int} (h : a = b) : Value.int k a = Value.int k b := by rw [h]
theorem bool_eq {a b : Bool} (h : a = b) : Value.bool a = Value.bool b := by rw [h]

/-- nothing that was there has turned -/
def Ext (w w' : World) : Prop := Below w.heap.size w w'
theorem Ext.refl (w : World) : Ext w w := Below.refl _ _
theorem Ext.trans {a b c : World} (h : Ext a b) (k : Ext b c) : Ext a c := Below.trans h (Below.mono k h.size)
theorem Ext.alloc {a b : World} (h : Ext a b) (o : Obj) : Ext a (b.alloc o) := Below.alloc h h.size o
theorem Ext.drew {a b : World} (h : Ext a b) : Ext a b.drew := Below.drew h
theorem Ext.drewN {a b : World} (h : Ext a b) (n : Nat) : Ext a (b.drewN n) := ⟨h.os, h.tape, h.output, h.size, h.block⟩
theorem Ext.setCell {a b : World} (h : Ext a b) {p : Addr} (hp : a.heap.size ≤ p.block) (u : Value) : Ext a (b.setCell p u) := Below.setCell h hp u
theorem Ext.grown {a b c : World} (h : Ext a b) {row : Option Nat} (hg : b.grownBy c row) (hr : ∀ k, row = some k → a.heap.size ≤ k) : Ext a c := Below.grown h hg h.size hr
theorem Rd.ext {w w' : World} {A : Option Addr} {vs : List Value} (h : Rd w A vs) (hb : Ext w w') : Rd w' A vs := h.below hb
theorem Rd.alloc {w : World} {A : Option Addr} {vs : List Value} (h : Rd w A vs) (o : Obj) : Rd (w.alloc o) A vs := h.ext ((Ext.refl w).alloc o)
theorem Rd.grown {w w' : World} {A : Option Addr} {vs : List Value} (h : Rd w A vs) {row : Option Nat} (hg : w.grownBy w' row) (hr : ∀ a, A = some a → row ≠ some a.block) : Rd w' A vs := by
  intro hne
  obtain ⟨b, off, hA, hc⟩ := h hne
  exact ⟨b, off, hA, fun j u hu => hg.cell (hc j u hu) (fun e => hr _ hA e.symm)⟩
theorem own_ext {w w' : World} {base : Nat} {e : TypeId} {size : Nat} {v : Value} {n : Nat} {xs : List Value} (h : w.ownsRow base e size v n xs) (hb : Ext w w') : w'.ownsRow base e size v n xs := by
  refine ⟨h.1, ?_⟩
  rcases h.2 with hn | ⟨g, cap, cur, rfl, hbg, hgg, rest⟩
  · exact .inl hn
  · exact .inr ⟨g, cap, cur, rfl, hbg, by rw [hb.block g (Array.getElem?_eq_some_iff.1 hgg).1]; exact hgg, rest⟩
theorem own_base {w : World} {base base' : Nat} {e : TypeId} {size : Nat} {v : Value} {n : Nat} {xs : List Value} (h : w.ownsRow base e size v n xs) (hb : base' ≤ base) : w.ownsRow base' e size v n xs := by
  refine ⟨h.1, ?_⟩
  rcases h.2 with hn | ⟨g, cap, cur, rfl, hbg, rest⟩
  · exact .inl hn
  · exact .inr ⟨g, cap, cur, rfl, by omega, rest⟩
theorem own_form {w : World} {base : Nat} {e : TypeId} {size : Nat} {v : Value} {n : Nat} {xs : List Value} (h : w.ownsRow base e size v n xs) : ∃ A c, v = .slice A n c := by
  rcases h.2 with ⟨rfl, rfl⟩ | ⟨g, cap, cur, rfl, _⟩
  · exact ⟨_, _, rfl⟩
  · exact ⟨_, _, rfl⟩
theorem own_cap {w : World} {base : Nat} {e : TypeId} {size : Nat} {A : Option Addr} {n c : Nat} {xs : List Value} (h : w.ownsRow base e size (.slice A n c) n xs) : n ≤ c := by
  rcases h.2 with ⟨h1, rfl⟩ | ⟨g, cap, cur, h1, _, _, h2, _⟩
  · omega
  · injection h1 with _ _ h1
    omega
theorem own_block {w : World} {base : Nat} {e : TypeId} {size : Nat} {A : Option Addr} {n c : Nat} {xs : List Value} (h : w.ownsRow base e size (.slice A n c) n xs) (hn : 0 < n) :
    ∃ g, A = some ⟨g, 0, none⟩ ∧ base ≤ g ∧ g < w.heap.size := by
  rcases h.2 with ⟨h1, rfl⟩ | ⟨g, cap, cur, h1, h2, h3, _⟩
  · omega
  · injection h1 with h1 _ _
    exact ⟨g, h1, h2, (Array.getElem?_eq_some_iff.1 h3).1⟩
theorem own_ge {w : World} {A : Option Addr} {n c : Nat} {base : Nat} {e : TypeId} {size : Nat} {xs : List Value} (h : w.ownsRow base e size (.slice A n c) n xs) : ∀ k, (Value.slice A n c).ownBlock = some k → base ≤ k := fun k hk => (h.lt k hk).1
theorem own_made (w : World) (cs : List Value) (e : TypeId) (size n : Nat) (hn : cs.length = n * size) (hm : n ≤ maxLen) {base : Nat} (hb : base ≤ w.heap.size) :
    (w.alloc (.cells cs.toArray e)).ownsRow base e size (.slice (some ⟨w.heap.size, 0, none⟩) n n) n cs :=
  ⟨hn, .inr ⟨w.heap.size, n, cs.toArray, rfl, hb, heap_alloc_new w _, Nat.le_refl _, hm, by simpa using hn, by rw [List.take_of_length_le (by simp [hn])]⟩⟩

theorem rd_new (w : World) (cs : List Value) (e : TypeId) : Rd (w.alloc (.cells cs.toArray e)) (some ⟨w.heap.size, 0, none⟩) cs := by
  intro _
  refine ⟨w.heap.size, 0, rfl, fun j u hu => ?_⟩
  rw [Nat.zero_add, World.cell?_alloc_new]
  simpa using hu
theorem drewN_add (w : World) (a b : Nat) : (w.drewN a).drewN b = w.drewN (a + b) := by simp [World.drewN, Nat.add_assoc]

theorem quiet_eq {P : Program} {f : FuncId} {args : Array Value} {w : World} {n : Nat} {v : Value}
    (h : Calls P f args (w.drewN n) fun e w' => e = .returned v ∧ w.drewN n = w') : Calls P f args (w.drewN n) fun e w'' => e = .returned v ∧ ∃ m, w'' = w.drewN m :=
  h.mono fun _ _ ⟨he, hm⟩ => ⟨he, n, hm.symm⟩
theorem quiet_q {P : Program} {f : FuncId} {args : Array Value} {w : World} {n : Nat} {v : Value}
    (h : Calls P f args (w.drewN n) fun e w' => e = .returned v ∧ ∃ q, w' = (w.drewN n).drewN q) : Calls P f args (w.drewN n) fun e w'' => e = .returned v ∧ ∃ m, w'' = w.drewN m :=
  h.mono fun _ _ ⟨he, q, hm⟩ => ⟨he, n + q, by rw [hm, drewN_add]⟩
theorem quiet_add_eq {P : Program} {f : FuncId} {args : Array Value} {w : World} {a n : Nat} {v : Value}
    (h : Calls P f args (w.drewN (a + n)) fun e w' => e = .returned v ∧ w.drewN (a + n) = w') : Calls P f args (w.drewN (a + n)) fun e w'' => e = .returned v ∧ ∃ m, w'' = w.drewN (a + m) :=
  h.mono fun _ _ ⟨he, hm⟩ => ⟨he, n, hm.symm⟩
theorem quiet_add_q {P : Program} {f : FuncId} {args : Array Value} {w : World} {a n : Nat} {v : Value}
    (h : Calls P f args (w.drewN (a + n)) fun e w' => e = .returned v ∧ ∃ q, w' = (w.drewN (a + n)).drewN q) : Calls P f args (w.drewN (a + n)) fun e w'' => e = .returned v ∧ ∃ m, w'' = w.drewN (a + m) :=
  h.mono fun _ _ ⟨he, q, hm⟩ => ⟨he, n + q, by rw [hm, drewN_add, Nat.add_assoc]⟩

theorem slice_from {P : Program} {t e : TypeId} (ht : P.underlying t = some (.slice e)) (hz : ∀ u : World, (sizeOf e).run P u = .ok 1 u) {b off n c m d : Nat} (k : Nat) (h1 : k ≤ n) (h2 : ¬ c = k) (hm : n = m + k) (hd : c = d + k) (u : World) :
    (Instr.slice t (.slice (some ⟨b, off, none⟩) n c) (some (.int .i64 (k : Int))) none none).run P u = .ok (.slice (some ⟨b, off + k, none⟩) m d) u := by
  have he : P.elem t = e := by simp [Program.elem, ht]
  rw [run_slice_l (P := P) u t _ n c (by rw [he]; exact ht) .i64 (k : Int) (by omega) (by omega)]
  rw [he, hz]
  simp only [Result.andThen, sliced, Int.toNat_natCast, if_neg h2, Option.map_some, Addr.add_lit, Nat.mul_one]
  congr 2 <;> omega
theorem slice_to {P : Program} {t e : TypeId} (ht : P.underlying t = some (.slice e)) (hz : ∀ u : World, (sizeOf e).run P u = .ok 1 u) {b off n c : Nat} (k : Nat) (h1 : k ≤ c) (u : World) :
    (Instr.slice t (.slice (some ⟨b, off, none⟩) n c) none (some (.int .i64 (k : Int))) none).run P u = .ok (.slice (some ⟨b, off, none⟩) k c) u := by
  have he : P.elem t = e := by simp [Program.elem, ht]
  rw [run_slice_h (P := P) u t _ n c (by rw [he]; exact ht) .i64 (k : Int) (by omega) (by omega)]
  rw [he, hz]
  simp [Result.andThen, sliced, Int.toNat_natCast, Addr.add]

section
variable {P : Program} (w : World)
theorem run_append_none {base : Nat} {t ty e : TypeId} {i : TypeInfo} {size : Nat} (ht : P.underlying t = some (.slice e)) (hi : P.info? e = some i)
    {v : Value} {n : Nat} {xs : List Value} (hown : w.ownsRow base e size v n xs) (c : Nat) : (Builtin.append_ #[t, t] ty #[v, .slice none 0 c]).run P w = .ok v w := by
  rcases hown.2 with ⟨rfl, rfl⟩ | ⟨g, cap, cur, rfl, _, _, hnc, _⟩
  · simp [Builtin.append_, run_underlying ht, sizeOf, typeInfo, hi, Builtin.lenOf, Builtin.firstCells]
  · simp [Builtin.append_, run_underlying ht, sizeOf, typeInfo, hi, Builtin.lenOf, Builtin.firstCells, hnc, storeCells]

/-- append onto a row of the call's own, of whatever reads as a list -/
theorem run_append_rd {base : Nat} {t ty e : TypeId} {i : TypeInfo} {z : Value} {size bytes : Nat} (ht : P.underlying t = some (.slice e)) (hi : P.info? e = some i) (hz : i.zero = some z)
    (hsize : i.size = size) (hby : i.bytes = bytes) (hzs : z.cells.size = size) (hsz : 0 < size)
    {B : Option Addr} {n cb : Nat} {xs : List Value} (hown : w.ownsRow base e size (.slice B n cb) n xs)
    {A : Option Addr} {m c : Nat} {news : List Value} (hl : news.length = m * size) (hr : Rd w A news) (h1 : ∀ u ∈ news, u.oneCell' = true)
    (h63 : n + m ≤ maxLen) (hbytes : (n + m) * bytes ≤ 140737488355328) (hbase : base ≤ w.heap.size) :
    ∃ B' cb' w', (Builtin.append_ #[t, t] ty #[.slice B n cb, .slice A m c]).run P w = .ok (.slice B' (n + m) cb') w' ∧ w'.ownsRow base e size (.slice B' (n + m) cb') (n + m) (xs ++ news) ∧
      w.grownBy w' (Value.slice B n cb).ownBlock ∧ ((Value.slice B' (n + m) cb').ownBlock = (Value.slice B n cb).ownBlock ∨ (Value.slice B' (n + m) cb').ownBlock = some w.heap.size) := by
  have fin : ∀ v' w', (Builtin.append_ #[t, t] ty #[.slice B n cb, .slice A m c]).run P w = .ok v' w' → w'.ownsRow base e size v' (n + m) (xs ++ news) →
      w.grownBy w' (Value.slice B n cb).ownBlock → (v'.ownBlock = (Value.slice B n cb).ownBlock ∨ v'.ownBlock = some w.heap.size) →
      ∃ B' cb' w', (Builtin.append_ #[t, t] ty #[.slice B n cb, .slice A m c]).run P w = .ok (.slice B' (n + m) cb') w' ∧ w'.ownsRow base e size (.slice B' (n + m) cb') (n + m) (xs ++ news) ∧
      w.grownBy w' (Value.slice B n cb).ownBlock ∧ ((Value.slice B' (n + m) cb').ownBlock = (Value.slice B n cb).ownBlock ∨ (Value.slice B' (n + m) cb').ownBlock = some w.heap.size) := by
    intro v' w' h2 h3 h4 h5
    obtain ⟨B', cb', rfl⟩ := own_form h3
    exact ⟨B', cb', w', h2, h3, h4, h5⟩
  cases A with
  | none =>
    have hn : news = [] := by
      rcases Classical.em (news = []) with h | h
      · exact h
      · obtain ⟨b, off, hA, _⟩ := hr h
        cases hA
    subst hn
    have hm : m = 0 := by
      have h0 : m * size = 0 := by rw [← hl]; rfl
      rcases Nat.mul_eq_zero.1 h0 with h | h
      · exact h
      · omega
    subst hm
    exact fin _ w (run_append_none w ht hi hown c) (by simpa using hown) (World.grownBy.refl w _) (.inl rfl)
  | some a =>
    obtain ⟨v', w', h2, h3, h4, _, h5⟩ := run_append_own_at (P := P) w base t ty e i z size bytes ht hi hz hsize hby hzs hsz _ n xs hown a m c news hl (fun j u hu => by
      obtain ⟨b, off, hA, hc⟩ := hr (by intro e; rw [e] at hu; simp at hu)
      injection hA with hA
      subst hA
      rw [Addr.add_lit]
      exact hc j u hu) h1 h63 hbytes hbase
    exact fin v' w' h2 h3 h4 h5

theorem wp_append_rd {o : Oper} {a : Act} {K : Act → World → Prop} {Q : Exit → Act → World → Prop} (s x : Operand) (t : TypeId)
    (ho : o.op = .call { callee := .builtin .append, args := #[s, x], argTypes := #[t, t] })
    (base : Nat) (e : TypeId) {i : TypeInfo} {z : Value} {size bytes : Nat} (ht : P.underlying t = some (.slice e)) (hi : P.info? e = some i) (hz : i.zero = some z)
    (hsize : i.size = size) (hby : i.bytes = bytes) (hzs : z.cells.size = size) (hsz : 0 < size)
    {B : Option Addr} {n cb : Nat} {xs : List Value} (hs : a.eval s = .slice B n cb) (hown : w.ownsRow base e size (.slice B n cb) n xs)
    {A : Option Addr} {m c : Nat} {news : List Value} (hx : a.eval x = .slice A m c) (hl : news.length = m * size) (hr : Rd w A news) (h1 : ∀ u ∈ news, u.oneCell' = true)
    (h63 : n + m ≤ maxLen) (hbytes : (n + m) * bytes ≤ 140737488355328) (hbase : base ≤ w.heap.size)
    (h : ∀ B' cb' w', w'.ownsRow base e size (.slice B' (n + m) cb') (n + m) (xs ++ news) → w.grownBy w' (Value.slice B n cb).ownBlock →
      ((Value.slice B' (n + m) cb').ownBlock = (Value.slice B n cb).ownBlock ∨ (Value.slice B' (n + m) cb').ownBlock = some w.heap.size) → K (a.put o.dst (.slice B' (n + m) cb')) w') : o.wp P a w K Q := by
  obtain ⟨B', cb', w', hrun, h2, h3, h4⟩ := run_append_rd (P := P) w (ty := o.type) ht hi hz hsize hby hzs hsz hown (c := c) hl hr h1 h63 hbytes hbase
  unfold Oper.wp execOp
  simp only [ho, resolve, invoke, builtin, Sem.run_bind, Sem.run_pure, Result.andThen_ok, List.map_toArray, List.map_cons, List.map_nil, hs, hx, hrun]
  exact h B' cb' w' h2 h3 h4
theorem wpList_append_rd {ops : Array Oper} {rest : List Oper} {o : Oper} {a : Act} {Q : Exit → Act → World → Prop} (hgd : o.guard = none) (s x : Operand) (t : TypeId)
    (ho : o.op = .call { callee := .builtin .append, args := #[s, x], argTypes := #[t, t] })
    (base : Nat) (e : TypeId) {i : TypeInfo} {z : Value} {size bytes : Nat} (ht : P.underlying t = some (.slice e)) (hi : P.info? e = some i) (hz : i.zero = some z)
    (hsize : i.size = size) (hby : i.bytes = bytes) (hzs : z.cells.size = size) (hsz : 0 < size)
    {B : Option Addr} {n cb : Nat} {xs : List Value} (hs : a.eval s = .slice B n cb) (hown : w.ownsRow base e size (.slice B n cb) n xs)
    {A : Option Addr} {m c : Nat} {news : List Value} (hx : a.eval x = .slice A m c) (hl : news.length = m * size) (hr : Rd w A news) (h1 : ∀ u ∈ news, u.oneCell' = true)
    (h63 : n + m ≤ maxLen) (hbytes : (n + m) * bytes ≤ 140737488355328) (hbase : base ≤ w.heap.size)
    (h : ∀ B' cb' w', w'.ownsRow base e size (.slice B' (n + m) cb') (n + m) (xs ++ news) → w.grownBy w' (Value.slice B n cb).ownBlock →
      ((Value.slice B' (n + m) cb').ownBlock = (Value.slice B n cb).ownBlock ∨ (Value.slice B' (n + m) cb').ownBlock = some w.heap.size) → wpList P ops Q rest (a.put o.dst (.slice B' (n + m) cb')) w') :
    wpList P ops Q (o :: rest) a w :=
  wpList_plain hgd fun _ hK => wp_append_rd w s x t ho base e ht hi hz hsize hby hzs hsz hs hown hx hl hr h1 h63 hbytes hbase fun B' cb' w' h2 h3 h4 => hK _ _ (h B' cb' w' h2 h3 h4)
end
end

section
open Go.RowKit

theorem info_u8 : (Try.prog.info? 5).map (fun i => (i.zero, i.size, i.bytes)) = some (some (.int .u8 0), 1, 1) := by kernel_rfl

theorem size_u8 : ∀ u : World, (sizeOf 5).run Try.prog u = .ok 1 u := fun _ => by kernel_rfl

/-- append of bytes onto bytes of the call's own -/
theorem app_u8 {ops : Array Oper} {rest : List Oper} {o : Oper} {a : Act} {Q : Exit → Act → World → Prop} (w : World) (hgd : o.guard = none) (s x : Operand)
    (ho : o.op = .call { callee := .builtin .append, args := #[s, x], argTypes := #[28, 28] })
    (base : Nat) {B : Option Addr} {n cb : Nat} {xs : List Nat} (hs : a.eval s = .slice B n cb) (hown : w.ownsRow base 5 1 (.slice B n cb) n (vals .u8 xs))
    {A : Option Addr} {m c : Nat} {news : List Nat} (hx : a.eval x = .slice A m c) (hl : news.length = m) (hr : Rd w A (vals .u8 news)) (hb : n + m ≤ 140737488355328) (hbase : base ≤ w.heap.size)
    (h : ∀ B' cb' w', w'.ownsRow base 5 1 (.slice B' (n + m) cb') (n + m) (vals .u8 (xs ++ news)) → w.grownBy w' (Value.slice B n cb).ownBlock →
      ((Value.slice B' (n + m) cb').ownBlock = (Value.slice B n cb).ownBlock ∨ (Value.slice B' (n + m) cb').ownBlock = some w.heap.size) → wpList Try.prog ops Q rest (a.put o.dst (.slice B' (n + m) cb')) w') :
    wpList Try.prog ops Q (o :: rest) a w := by
  obtain ⟨i0, hi, hz0, hz1, hz2⟩ := info_parts info_u8
  refine wpList_append_rd w hgd s x 28 ho base 5 Try.underlying28 hi hz0 hz1 hz2 rfl (by decide) hs hown hx (by rw [vals_len, hl, Nat.mul_one]) hr (vals_one _ _) (by unfold maxLen; omega) (by omega) hbase ?_
  intro B' cb' w' h2 h3 h4
  rw [← vals_append] at h2
  exact h B' cb' w' h2 h3 h4

theorem own0 (w : World) : (w.alloc (.cells #[] 5)).ownsRow w.heap.size 5 1 (.slice (some ⟨w.heap.size, 0, none⟩) 0 0) 0 (vals .u8 []) := own_made w [] 5 1 0 rfl (Nat.zero_le _) (Nat.le_refl _)

/-- an answer that is a list of bytes in new memory -/
def RetB (xs : List Nat) (w : World) (e : Ending) (w' : World) : Prop :=
  ∃ A c, e = .returned (.slice A xs.length c) ∧ w'.ownsRow w.heap.size 5 1 (.slice A xs.length c) xs.length (vals .u8 xs) ∧ Ext w w'

theorem retB_of {n c : Nat} {xs : List Nat} (hl : xs.length = n) {w w' : World} {A : Option Addr} (ho : w'.ownsRow w.heap.size 5 1 (.slice A n c) n (vals .u8 xs)) (hb : Ext w w') :
    RetB xs w (.returned (.slice A n c)) w' := by
  subst hl
  exact ⟨A, c, rfl, ho, hb⟩

set_option maxHeartbeats 400000 in
theorem twin_any (A : Option Addr) (n c : Nat) (xs : List Nat) (w : World) (hl : xs.length = n) (hn : n ≤ 140737488355328) (hr : Rd w A (vals .u8 xs)) :
    Calls Try.prog 71 #[.slice A n c] w (RetB xs w) := by
  have Hl := Lib.hid hl; clear hl
  have Hr := Lib.hid hr; clear hr
  go_enter Try.func71, Try.ntmps71
  go_wp2_with (at_builtin; refine app_u8 _ rfl (.tmp 3) (.tmp 4) rfl w.heap.size rfl (own0 w) rfl Hl.out (Hr.out.alloc _) (by omega) (by simp) ?_; intro A' c' w1 hown hgrow _; simp only [Nat.zero_add, List.nil_append] at hown)
  go_ret
  exact retB_of Hl.out hown (((Ext.refl w).alloc _).grown hgrow (by simp [Value.ownBlock]))

theorem nilq (w : World) (A : Option Addr) (n c n' c' : Nat) : (binOp .eql 28 (.slice A n c) (.slice none n' c')).run Try.prog w = .ok (.bool A.isNone) w := Lib.run_eql_slice_nil w _ _ A n c n' c' Try.underlying28

/-- bytes.Clone: nil of nil; else new memory -/
def RetClone (isNil : Bool) (xs : List Nat) (w : World) (e : Ending) (w' : World) : Prop :=
  if isNil then e = .returned (.slice none 0 0) ∧ w = w' else RetB xs w e w'
set_option maxHeartbeats 400000 in
theorem clone_some (a : Addr) (n c : Nat) (xs : List Nat) (w : World) (hl : xs.length = n) (hn : n ≤ 140737488355328) (hr : Rd w (some a) (vals .u8 xs)) :
    Calls Try.prog 61 #[.slice (some a) n c] w (RetB xs w) := by
  have Hl := Lib.hid hl; clear hl
  have Hr := Lib.hid hr; clear hr
  have q := nilq
  go_enter Try.func61, Try.ntmps61
  go_wp2_with (at_builtin; refine app_u8 _ rfl (.tmp 5) (.tmp 6) rfl w.heap.size rfl (own0 w) rfl Hl.out (Hr.out.alloc _) (by omega) (by simp) ?_; intro A' c' w1 hown hgrow _; simp only [Nat.zero_add, List.nil_append] at hown)
  go_ret
  exact retB_of Hl.out hown (((Ext.refl w).alloc _).grown hgrow (by simp [Value.ownBlock]))
theorem clone_nil (w : World) (n c : Nat) :
    Calls Try.prog 61 #[.slice none n c] w fun e w' => e = .returned (.slice none 0 0) ∧ w = w' := by
  have q := nilq
  go_enter Try.func61, Try.ntmps61
  go_wp2
  go_ret
  exact ⟨rfl, rfl⟩

def same (xs ys : List Nat) : Bool := decide (xs = ys)
/-- only draws -/
def RetQ (v : Value) (w : World) (e : Ending) (w' : World) : Prop := e = .returned v ∧ ∃ q, w' = w.drewN q

set_option maxHeartbeats 400000 in
theorem same_len (A B : Option Addr) (n c m d : Nat) (w : World) (h : n ≠ m) :
    Calls Try.prog 20 #[.slice A n c, .slice B m d] w (RetQ (.bool false) w) := by
  go_enter Try.func20, Try.ntmps20
  go_wp2
  go_ret
  exact ⟨rfl, 0, rfl⟩
set_option maxHeartbeats 400000 in
theorem same_any' (A B : Option Addr) (n c d : Nat) (xs ys : List Nat) (w : World) (hl : xs.length = n) (hl' : ys.length = n) (hn : n ≤ 9223372036854775807) (hb : ∀ x ∈ xs, x < 256) (hb' : ∀ x ∈ ys, x < 256) (hr : Rd w A (vals .u8 xs)) (hr' : Rd w B (vals .u8 ys)) :
    Calls Try.prog 20 #[.slice A n c, .slice B n d] w (RetQ (.bool (same xs ys)) w) := by
  have Hl := Lib.hid hl; have Hr := Lib.hid hr; have Hl' := Lib.hid hl'; have Hr' := Lib.hid hr'; have Hb := Lib.hid hb; have Hb' := Lib.hid hb'; clear hl hr hl' hr' hb hb'
  go_enter Try.func20, Try.ntmps20
  go_wp2
  go_loopw [13] (fun i wr => ∃ k q : Nat, k ≤ n ∧ i = .int .i64 k ∧ wr = w.drewN q ∧ xs.take k = ys.take k) (fun i _ => n - (intOf i).toNat)
  case atStart => exact ⟨0, 0, Nat.zero_le _, rfl, rfl, rfl⟩
  case round =>
    obtain ⟨k, q, hk, rfl, rfl, htk⟩ := hrel
    have Htk := Lib.hid htk; clear htk
    by_cases hlt : k < n
    · obtain ⟨x, hx⟩ := get_of_lt (xs := xs) (j := k) (by rw [Hl.out]; exact hlt)
      obtain ⟨y, hy⟩ := get_of_lt (xs := ys) (j := k) (by rw [Hl'.out]; exact hlt)
      obtain ⟨b, off, hA, _, hc⟩ := Hr.out.at_ hx
      obtain ⟨b', off', hA', _, hc'⟩ := Hr'.out.at_ hy
      have Hx := Lib.hid hx; have Hy := Lib.hid hy; clear hx hy
      subst hA hA'
      by_cases hxy : x = y
      · subst hxy
        go_wp2
        go_quiet (fail)
        go_wp2
        go_roundw
        case rel => exact ⟨k + 1, _, by omega, by go_num, rfl, by rw [take_succ_of Hx.out, take_succ_of Hy.out, Htk.out]⟩
        case measure => simp [intOf]; omega
      · go_wp2
        go_quiet (fail)
        go_wp2
        go_ret
        exact ⟨ret_bool (Eq.symm (decide_eq_false (by rintro rfl; have := Hx.out.symm.trans Hy.out; injection this with this; exact hxy this))), q + nq, drewN_add w q nq⟩
    · go_wp2
      go_ret
      exact ⟨ret_bool (Eq.symm (decide_eq_true (by have h := Htk.out; rwa [List.take_of_length_le (by rw [Hl.out]; omega), List.take_of_length_le (by rw [Hl'.out]; omega)] at h))), q, rfl⟩
theorem same_any (A B : Option Addr) (n c m d : Nat) (xs ys : List Nat) (w : World) (hl : xs.length = n) (hl' : ys.length = m) (hn : n ≤ 9223372036854775807) (hb : ∀ x ∈ xs, x < 256) (hb' : ∀ x ∈ ys, x < 256) (hr : Rd w A (vals .u8 xs)) (hr' : Rd w B (vals .u8 ys)) :
    Calls Try.prog 20 #[.slice A n c, .slice B m d] w (RetQ (.bool (same xs ys)) w) := by
  by_cases h : n = m
  · subst h
    exact same_any' A B n c d xs ys w hl hl' hn hb hb' hr hr'
  · have e : same xs ys = false := decide_eq_false (by rintro rfl; omega)
    rw [e]
    exact same_len A B n c m d w h

/-- a list with marked room behind it, and the whole of it -/
def RetSpare (xs : List Nat) (w : World) (e : Ending) (w' : World) : Prop :=
  ∃ A c, e = .returned (.tuple #[.slice A xs.length c, .slice A (xs.length + 3) c]) ∧ w'.ownsRow w.heap.size 5 1 (.slice A (xs.length + 3) c) (xs.length + 3) (vals .u8 (xs ++ [165, 90, 165])) ∧ Ext w w'

theorem spare_of {n c : Nat} {xs : List Nat} (hl : xs.length = n) {w w' : World} {A : Option Addr} (ho : w'.ownsRow w.heap.size 5 1 (.slice A (n + 3) c) (n + 3) (vals .u8 (xs ++ [165, 90, 165]))) (hb : Ext w w') :
    RetSpare xs w (.returned (.tuple #[.slice A n c, .slice A (n + 3) c])) w' := by
  subst hl
  exact ⟨A, c, rfl, ho, hb⟩
theorem rd_take {w : World} {A : Option Addr} {k : IntKind} {xs ys : List Nat} (h : Rd w A (vals k (xs ++ ys))) : Rd w A (vals k xs) := by
  intro hne
  obtain ⟨b, off, hA, hc⟩ := h (by intro e; rw [vals_append] at e; exact hne (List.append_eq_nil_iff.1 e).1)
  exact ⟨b, off, hA, fun j u hu => hc j u (by rw [vals_append, List.getElem?_append_left (List.getElem?_eq_some_iff.1 hu).1]; exact hu)⟩
set_option maxHeartbeats 400000 in
theorem spare_any (A : Option Addr) (n c : Nat) (xs : List Nat) (w : World) (hl : xs.length = n) (hn : n ≤ 140737488351232) (hr : Rd w A (vals .u8 xs)) :
    Calls Try.prog 17 #[.slice A n c] w (RetSpare xs w) := by
  have Hl := Lib.hid hl; clear hl
  have Hr := Lib.hid hr; clear hr
  go_enter Try.func17, Try.ntmps17
  go_wp2_with (first | (at_builtin; refine app_u8 _ rfl (.tmp 5) (.tmp 6) rfl w.heap.size rfl (own0 w) rfl Hl.out (Hr.out.alloc _) (by omega) (by simp) ?_; intro A1 c1 w1 hown1 hgrow1 _; simp only [Nat.zero_add, List.nil_append] at hown1) | (at_builtin; refine app_u8 _ rfl (.tmp 7) (.tmp 8) rfl w.heap.size rfl (hown1.alloc _) rfl (m := 3) (news := [165, 90, 165]) rfl (rd_new _ _ _) (by omega) (by have := hgrow1.size; simp at this ⊢; omega) ?_; intro A2 c2 w2 hown2 hgrow2 hblk2; have hcap2 := own_cap hown2))
  go_ret2
  exact spare_of Hl.out hown2 ((((((Ext.refl w).alloc _).grown hgrow1 (by simp [Value.ownBlock])).alloc _).grown hgrow2 (own_ge hown1)))

set_option maxHeartbeats 400000 in
theorem kept_true (F A : Option Addr) (n m c d : Nat) (xs : List Nat) (w : World) (hl : xs.length = n) (hm : n + 3 = m) (hmc : m ≤ c) (hn : n ≤ 9223372036854775804) (hb : ∀ x ∈ xs, x < 256)
    (hr : Rd w F (vals .u8 (xs ++ [165, 90, 165]))) (hr' : Rd w A (vals .u8 xs)) :
    Calls Try.prog 26 #[.slice F m c, .slice A n d] w (RetQ (.bool true) w) := by
  subst hm
  have hcap : n + 3 ≤ c := hmc
  have h1 := hr.at_ (k := .u8) (j := n) (x := 165) (by rw [List.getElem?_append_right (by omega), hl, Nat.sub_self]; rfl)
  have h2 := hr.at_ (k := .u8) (j := n + 1) (x := 90) (by rw [List.getElem?_append_right (by omega), hl, show n + 1 - n = 1 from by omega]; rfl)
  have h3 := hr.at_ (k := .u8) (j := n + 2) (x := 165) (by rw [List.getElem?_append_right (by omega), hl, show n + 2 - n = 2 from by omega]; rfl)
  obtain ⟨b, off, hA, _, hc1⟩ := h1
  obtain ⟨b', off', hA', _, hc2⟩ := h2
  obtain ⟨b'', off'', hA'', _, hc3⟩ := h3
  have hF : Rd w F (vals .u8 xs) := rd_take hr
  subst hA
  injection hA' with hA'; injection hA' with e1 e2 _; subst e1 e2
  injection hA'' with hA''; injection hA'' with e1 e2 _; subst e1 e2
  have c1 := Lib.hid (same_any (some ⟨b, off, none⟩) A n c n d xs xs w hl hl (by omega) hb hb hF hr')
  have e : same xs xs = true := decide_eq_true rfl
  rw [e] at c1
  have hc1' : ∀ q, (w.drewN q).cell? ⟨b, off + n, none⟩ = some (.int .u8 165) := fun _ => hc1
  have hc2' : ∀ q, (w.drewN q).cell? ⟨b, off + (n + 1), none⟩ = some (.int .u8 90) := fun _ => hc2
  have hc3' : ∀ q, (w.drewN q).cell? ⟨b, off + (n + 2), none⟩ = some (.int .u8 165) := fun _ => hc3
  clear hr hr' hF hb hl hc1 hc2 hc3
  go_enter Try.func26, Try.ntmps26
  go_wp2_with fail
  refine c1.out.mono ?_
  rintro e w' ⟨rfl, q, rfl⟩
  go_wp2
  go_ret
  exact ⟨rfl, q, rfl⟩
end

section
open Go.RowKit
theorem rd_mark (w : World) (cs : List Value) (e : TypeId) (fz : Nat × Nat) : Rd (w.alloc (.cells cs.toArray e fz)) (some ⟨w.heap.size, 0, none⟩) cs := by
  intro _
  refine ⟨w.heap.size, 0, rfl, fun j u hu => ?_⟩
  have h : (w.alloc (.cells cs.toArray e fz)).heap[w.heap.size]? = some (.cells cs.toArray e fz) := heap_alloc_new w _
  unfold World.cell?
  simp only [Nat.zero_add]
  rw [h]
  simpa using hu
theorem rd_mark2 (w : World) (o : Obj) (cs : List Value) (e : TypeId) (fz : Nat × Nat) : Rd ((w.alloc o).alloc (.cells cs.toArray e fz)) (some ⟨w.heap.size + 1, 0, none⟩) cs := by
  have := rd_mark (w.alloc o) cs e fz
  rwa [World.size_alloc] at this
/-- an answer; nothing that was there has turned -/
def RetE (v : Value) (w : World) (e : Ending) (w' : World) : Prop := e = .returned v ∧ Ext w w'
theorem toE_eq {P : Program} {f : FuncId} {args : Array Value} {w : World} {v : Value} (h : Calls P f args w fun e w' => e = .returned v ∧ w = w') : Calls P f args w (RetE v w) :=
  h.mono fun _ _ ⟨he, hw⟩ => ⟨he, hw ▸ Ext.refl w⟩
theorem toE_q {P : Program} {f : FuncId} {args : Array Value} {w : World} {v : Value} (h : Calls P f args w fun e w' => e = .returned v ∧ ∃ q, w' = w.drewN q) : Calls P f args w (RetE v w) :=
  h.mono fun _ _ ⟨he, q, hw⟩ => ⟨he, hw ▸ (Ext.refl w).drewN q⟩

theorem World.grown_trans {a b c : World} {row : Option Nat} (h : a.grownBy b row) (k : b.grownBy c row) : a.grownBy c row :=
  ⟨k.os.trans h.os, k.tape.trans h.tape, k.output.trans h.output, Nat.le_trans h.size k.size, fun i hi hne => (k.block i (Nat.lt_of_lt_of_le hi h.size) hne).trans (h.block i hi hne)⟩
theorem own_lt {w : World} {base : Nat} {e : TypeId} {size : Nat} {A : Option Addr} {n c : Nat} {xs : List Value} (h : w.ownsRow base e size (.slice A n c) n xs) : ∀ a, A = some a → a.block < w.heap.size := by
  intro a ha
  subst ha
  exact (h.lt a.block rfl).2
theorem mem_set {xs : List Nat} {i y : Nat} {P : Nat → Prop} (h : ∀ x ∈ xs, P x) (hy : P y) : ∀ x ∈ xs.set i y, P x := by
  intro x hx
  rcases List.mem_or_eq_of_mem_set hx with hx | rfl
  · exact h x hx
  · exact hy
theorem vals_set (k : IntKind) (xs : List Nat) (i x : Nat) : vals k (xs.set i x) = (vals k xs).set i (.int k (x : Int)) := by simp [vals, List.map_set]
theorem vals_drop (k : IntKind) (xs : List Nat) (i : Nat) : vals k (xs.drop i) = (vals k xs).drop i := by simp [vals, List.map_drop]
theorem vals_take (k : IntKind) (xs : List Nat) (i : Nat) : vals k (xs.take i) = (vals k xs).take i := by simp [vals, List.map_take]

/-- a cut from k on, wherever it stands -/
theorem slice_from_any {P : Program} {t e : TypeId} (ht : P.underlying t = some (.slice e)) (hz : ∀ u : World, (sizeOf e).run P u = .ok 1 u) {A : Option Addr} {n c m d : Nat} (k : Nat) {ki : Int} (hki : ki = (k : Int)) (hnc : n ≤ c) (hm : n = m + k) (hd : c = d + k) :
    ∃ A' : Option Addr, (∀ u : World, (Instr.slice t (.slice A n c) (some (.int .i64 ki)) none none).run P u = .ok (.slice A' m d) u) ∧
      (∀ (w : World) (vs : List Value), vs.length = n → Rd w A vs → Rd w A' (vs.drop k)) ∧ (∀ a, A = some a → ∃ a', A' = some a' ∧ a'.block = a.block) := by
  subst hki
  have he : P.elem t = e := by simp [Program.elem, ht]
  refine ⟨if c = k then A else A.map (·.add k), fun u => ?_, fun w vs hl hr hne => ?_, fun a ha => ?_⟩
  · rw [run_slice_l (P := P) u t A n c (by rw [he]; exact ht) .i64 (k : Int) (by omega) (by omega), he, hz]
    simp only [Result.andThen, sliced, Int.toNat_natCast, Nat.mul_one]
    congr 2 <;> omega
  · have hvn : vs ≠ [] := by rintro rfl; simp at hne
    obtain ⟨b, off, rfl, hc⟩ := hr hvn
    have hck : ¬ c = k := by
      intro h
      apply hne
      rw [List.drop_of_length_le (by omega)]
    rw [if_neg hck]
    exact ⟨b, off + k, by simp [Addr.add_lit], fun j u hu => by rw [Nat.add_assoc]; exact hc (k + j) u (by rw [← hu, List.getElem?_drop])⟩
  · subst ha
    split
    · exact ⟨a, rfl, rfl⟩
    · refine ⟨a.add k, rfl, ?_⟩
      unfold Addr.add
      split <;> rfl
end

section
open Go.RowKit

/-- a number out of bytes, the highest first -/
def numB (xs : List Nat) : Nat := xs.foldl (fun n x => n * 256 + x) 0
theorem numB_snoc (xs : List Nat) (x : Nat) : numB (xs ++ [x]) = numB xs * 256 + x := by rw [numB, List.foldl_append, List.foldl_cons, List.foldl_nil, numB]
theorem numB_nil : numB [] = 0 := by rw [numB, List.foldl_nil]
theorem numB_go (xs : List Nat) : ∀ a, (∀ x ∈ xs, x < 256) → xs.foldl (fun n x => n * 256 + x) a < (a + 1) * 256 ^ xs.length := by
  induction xs with
  | nil => intro a _; rw [List.foldl_nil, List.length_nil, Nat.pow_zero]; omega
  | cons x xs ih =>
    intro a h
    have h1 := ih (a * 256 + x) (fun y hy => h y (List.mem_cons_of_mem _ hy))
    have h2 := h x List.mem_cons_self
    rw [List.foldl_cons, List.length_cons, Nat.pow_succ]
    have h3 : (a * 256 + x + 1) * 256 ^ xs.length ≤ (a + 1) * 256 * 256 ^ xs.length := Nat.mul_le_mul_right _ (by omega)
    rw [Nat.mul_comm (256 ^ xs.length) 256, ← Nat.mul_assoc]
    omega
theorem numB_lt (xs : List Nat) (h : ∀ x ∈ xs, x < 256) : numB xs < 256 ^ xs.length := by
  have := numB_go xs 0 h
  rw [numB]
  omega

/-- what stands at a stream's head: 0: not whole; 1: a wrong length; 2: a frame -/
def headF (ws : List Nat) : Nat :=
  if ws.length < 4 then 0 else if numB (ws.take 4) = 0 ∨ 4096 < numB (ws.take 4) then 1 else if ws.length - 4 < numB (ws.take 4) then 0 else 2
def payF (ws : List Nat) : List Nat := (ws.drop 4).take (numB (ws.take 4))
def restF (ws : List Nat) : List Nat := (ws.drop 4).drop (numB (ws.take 4))
theorem restF_lt {ws : List Nat} (h : headF ws = 2) : (restF ws).length < ws.length ∧ (payF ws).length = numB (ws.take 4) ∧ 1 ≤ numB (ws.take 4) ∧ numB (ws.take 4) ≤ 4096 ∧ 4 ≤ ws.length ∧ 4 + numB (ws.take 4) ≤ ws.length := by
  unfold headF at h
  by_cases h1 : ws.length < 4
  · rw [if_pos h1] at h; omega
  · rw [if_neg h1] at h
    by_cases h2 : numB (ws.take 4) = 0 ∨ 4096 < numB (ws.take 4)
    · rw [if_pos h2] at h; omega
    · rw [if_neg h2] at h
      by_cases h3 : ws.length - 4 < numB (ws.take 4)
      · rw [if_pos h3] at h; omega
      · simp only [restF, payF, List.length_drop, List.length_take]
        omega

/-- the payloads of a stream's whole frames; what is left; whether a wrong length stands there -/
def parseN : Nat → List Nat → List (List Nat) × List Nat × Bool
  | 0, ws => ([], ws, false)
  | f + 1, ws => if headF ws = 0 then ([], ws, false) else if headF ws = 1 then ([], ws, true) else
    (payF ws :: (parseN f (restF ws)).1, (parseN f (restF ws)).2.1, (parseN f (restF ws)).2.2)
theorem parseN_more : ∀ (f g : Nat) (ws : List Nat), ws.length < f → ws.length < g → parseN f ws = parseN g ws
  | 0, _, _, h, _ => by omega
  | _ + 1, 0, _, _, h => by omega
  | f + 1, g + 1, ws, h1, h2 => by
    unfold parseN
    by_cases e0 : headF ws = 0
    · rw [if_pos e0, if_pos e0]
    · by_cases e1 : headF ws = 1
      · rw [if_neg e0, if_pos e1, if_neg e0, if_pos e1]
      · rw [if_neg e0, if_neg e1, if_neg e0, if_neg e1]
        have e2 : headF ws = 2 := by
          unfold headF at e0 e1 ⊢
          split
          · rename_i h; rw [if_pos h] at e0; omega
          · rename_i h
            rw [if_neg h] at e0 e1
            split
            · rename_i h'; rw [if_pos h'] at e1; omega
            · rename_i h'
              rw [if_neg h'] at e0
              split
              · rename_i h''; rw [if_pos h''] at e0; omega
              · rfl
        have := (restF_lt e2).1
        rw [parseN_more f g (restF ws) (by omega) (by omega)]
def parse (ws : List Nat) : List (List Nat) × List Nat × Bool := parseN (ws.length + 1) ws
theorem headF_cases (ws : List Nat) : headF ws = 0 ∨ headF ws = 1 ∨ headF ws = 2 := by
  unfold headF
  split
  · exact .inl rfl
  · split
    · exact .inr (.inl rfl)
    · split
      · exact .inl rfl
      · exact .inr (.inr rfl)
theorem parse_wait {ws : List Nat} (h : headF ws = 0) : parse ws = ([], ws, false) := by
  unfold parse parseN; rw [if_pos h]
theorem parse_bad {ws : List Nat} (h : headF ws = 1) : parse ws = ([], ws, true) := by
  unfold parse parseN; rw [if_neg (by omega), if_pos h]
theorem parse_frame {ws : List Nat} (h : headF ws = 2) : parse ws = (payF ws :: (parse (restF ws)).1, (parse (restF ws)).2.1, (parse (restF ws)).2.2) := by
  have hl := (restF_lt h).1
  unfold parse
  conv => lhs; unfold parseN
  rw [if_neg (by omega), if_neg (by omega), parseN_more ws.length ((restF ws).length + 1) (restF ws) (by omega) (by omega)]
end

section
open Go.RowKit

/-- k bytes of a number, the highest first -/
def wordB (v : Nat) : Nat → List Nat
  | 0 => []
  | k + 1 => v / 256 ^ k % 256 :: wordB v k
theorem wordB_len (v k : Nat) : (wordB v k).length = k := by induction k with
  | zero => rfl
  | succ k ih => rw [wordB, List.length_cons, ih]
theorem wordB_lt (v k : Nat) : ∀ x ∈ wordB v k, x < 256 := by
  induction k with
  | zero => simp [wordB]
  | succ k ih =>
    intro x hx
    rw [wordB] at hx
    rcases List.mem_cons.1 hx with rfl | hx
    · exact Nat.mod_lt _ (by omega)
    · exact ih x hx
theorem numB_from (xs : List Nat) : ∀ a, xs.foldl (fun n x => n * 256 + x) a = a * 256 ^ xs.length + numB xs := by
  induction xs with
  | nil => intro a; simp [numB]
  | cons x xs ih =>
    intro a
    have e : numB (x :: xs) = (0 * 256 + x) * 256 ^ xs.length + numB xs := by
      show List.foldl _ (0 * 256 + x) xs = _
      exact ih _
    rw [List.foldl_cons, ih, e, List.length_cons, Nat.pow_succ, Nat.zero_mul, Nat.zero_add, Nat.add_mul, Nat.mul_assoc, Nat.mul_comm 256, Nat.add_assoc]
theorem numB_cons (x : Nat) (xs : List Nat) : numB (x :: xs) = x * 256 ^ xs.length + numB xs := by
  have e := numB_from xs (0 * 256 + x)
  have e' : numB (x :: xs) = (0 * 256 + x) * 256 ^ xs.length + numB xs := e
  rw [e', Nat.zero_mul, Nat.zero_add]
theorem numB_wordB (v k : Nat) : numB (wordB v k) = v % 256 ^ k := by
  induction k with
  | zero => simp [wordB, numB, Nat.mod_one]
  | succ k ih =>
    rw [wordB, numB_cons, wordB_len, ih, Nat.pow_succ, Nat.mul_comm (256 ^ k) 256, Nat.mul_comm 256 (256 ^ k), Nat.mod_mul, Nat.mul_comm, Nat.add_comm]
theorem wordB_numB (xs : List Nat) (h : ∀ x ∈ xs, x < 256) (m : Nat) : wordB (m * 256 ^ xs.length + numB xs) xs.length = xs := by
  induction xs generalizing m with
  | nil => rfl
  | cons x xs ih =>
    have hx := h x List.mem_cons_self
    have hl := numB_lt xs (fun y hy => h y (List.mem_cons_of_mem _ hy))
    have e : m * 256 ^ (xs.length + 1) + numB (x :: xs) = (m * 256 + x) * 256 ^ xs.length + numB xs := by
      rw [numB_cons, Nat.pow_succ, Nat.add_mul, Nat.mul_comm (256 ^ xs.length) 256, Nat.mul_assoc, Nat.add_assoc]
    rw [List.length_cons, wordB, e, ih (fun y hy => h y (List.mem_cons_of_mem _ hy)), Nat.mul_comm _ (256 ^ xs.length), Nat.mul_add_div (Nat.pos_of_ne_zero (by simp)), Nat.div_eq_of_lt hl]
    congr 1
    omega

theorem made_row (w : World) (n : Nat) (hn : n ≤ maxLen) : (w.alloc (.cells (madeCells #[.int .u8 0] n) 5)).ownsRow w.heap.size 5 1 (.slice (some ⟨w.heap.size, 0, none⟩) n n) n (vals .u8 (List.replicate n 0)) := by
  have e : (.cells (madeCells #[.int .u8 0] n) 5 : Obj) = .cells (vals .u8 (List.replicate n 0)).toArray 5 := by
    congr 1
    apply Array.ext'
    rw [toList_madeCells_one]
    simp [vals]
  rw [e]
  exact own_made w _ 5 1 n (by simp [vals]) hn (Nat.le_refl _)
theorem set_word (v n j : Nat) (h : j < n) : (List.replicate (n - j) 0 ++ wordB v j).set (n - 1 - j) (v / 256 ^ j % 256) = List.replicate (n - (j + 1)) 0 ++ wordB v (j + 1) := by
  have e : n - j = (n - (j + 1)) + 1 := by omega
  rw [List.set_append_left _ _ (by simp; omega), e, List.replicate_succ', List.set_append_right _ _ (by simp; omega)]
  rw [show n - 1 - j - (List.replicate (n - (j + 1)) 0).length = 0 by simp; omega]
  simp [wordB]

set_option maxHeartbeats 1000000 in
theorem docWord_any (w : World) (v n : Nat) (hv : v < 18446744073709551616) (hn : n ≤ 1000) :
    Calls Try.prog 60 #[.int .u64 (v : Int), .int .i64 (n : Int)] w (RetB (wordB v n) w) := by
  have hmk := Lib.hid (run_make_row' (P := Try.prog) 28 5 (.int .u8 0) 1 Try.underlying28 info_u8 rfl .i64 .i64 n (by omega) (by omega))
  have hrow := Lib.hid (made_row w n (by unfold maxLen; omega))
  have hmk' := hmk.out
  go_enter Try.func60, Try.ntmps60
  go_wp2_with fail
  clear hmk'
  go_loopg [0, 6] n (fun g v0 v6 wr => ∃ j : Nat, j ≤ n ∧ g = n - j ∧ v0 = .int .u64 ((v / 256 ^ j : Nat) : Int) ∧ v6 = .int .i64 ((n : Int) - 1 - (j : Int)) ∧ Ext w wr ∧
    wr.ownsRow w.heap.size 5 1 (.slice (some ⟨w.heap.size, 0, none⟩) n n) n (vals .u8 (List.replicate (n - j) 0 ++ wordB v j)))
  case atStart =>
    exact ⟨0, Nat.zero_le _, rfl, by simp, by go_num, (Ext.refl w).alloc _, by simpa [wordB] using hrow.out⟩
  case round =>
    obtain ⟨j, hj, rfl, rfl, rfl, hx, ho⟩ := hrel
    have Hx := Lib.hid hx; clear hx
    by_cases hlt : j < n
    · have hq : v / 256 ^ j < 18446744073709551616 := Nat.lt_of_le_of_lt (Nat.div_le_self _ _) hv
      have hfz := ho.frozenAt (n - 1 - j)
      have hst := Lib.hid (ho.stored (n - 1 - j) (.int .u8 ((v / 256 ^ j % 256 : Nat) : Int)))
      have hc0 := ho.cellAt (n - 1 - j) (by omega)
      have hs := Lib.hid (set_word v n j hlt)
      have hy : (List.replicate (n - j) 0 ++ wordB v j)[n - 1 - j]? = some 0 := by
        rw [List.getElem?_append_left (by simp; omega), List.getElem?_replicate, if_pos (by omega)]
      rw [vals_get hy] at hc0
      have hq2 : v / 256 ^ (j + 1) = v / 256 ^ j / 256 := by rw [Nat.pow_succ, Nat.div_div_eq_div_mul]
      have Hq2 := Lib.hid hq2
      clear hy hq2 ho
      generalize v / 256 ^ j = q at *
      go_wp2_with fail
      go_roundg (n - (j + 1))
      case measure => omega
      case rel =>
        refine ⟨j + 1, hlt, rfl, ?_, by go_num, Hx.out.setCell (p := ⟨w.heap.size, n - 1 - j, none⟩) (Nat.le_refl _) _, ?_⟩
        · rw [Hq2.out]; rfl
        · have := hst.out.1
          rw [← vals_set, hs.out] at this
          exact this
    · obtain rfl : j = n := by omega
      have Ho := Lib.hid ho; clear ho
      go_wp2_with fail
      go_ret
      have ho := Ho.out
      rw [Nat.sub_self, List.replicate_zero, List.nil_append] at ho
      exact retB_of (wordB_len v j) ho Hx.out

set_option maxHeartbeats 1000000 in
theorem docNumber_any (w : World) (A : Option Addr) (n c : Nat) (xs : List Nat) (hl : xs.length = n) (hn : n ≤ 8) (hb : ∀ x ∈ xs, x < 256) (hr : Rd w A (vals .u8 xs)) :
    Calls Try.prog 70 #[.slice A n c] w fun e w' => e = .returned (.int .u64 (numB xs : Int)) ∧ w = w' := by
  have Hl := Lib.hid hl; have Hb := Lib.hid hb; have Hr := Lib.hid hr; clear hl hb hr
  go_enter Try.func70, Try.ntmps70
  go_wp2_with fail
  go_loop [3, 7] (fun x i => ∃ k : Nat, k ≤ n ∧ i = .int .i64 k ∧ x = .int .u64 ((numB (xs.take k) : Nat) : Int)) (fun _ i => n - (intOf i).toNat)
  case atStart => exact ⟨0, Nat.zero_le _, rfl, by rw [List.take_zero, numB_nil]; rfl⟩
  case round =>
    obtain ⟨k, hk, rfl, rfl⟩ := hrel
    by_cases hlt : k < n
    · obtain ⟨x, hx⟩ := get_of_lt (xs := xs) (j := k) (by rw [Hl.out]; exact hlt)
      have hx256 : x < 256 := Hb.out x (List.mem_of_getElem? hx)
      obtain ⟨b, off, hA, hc⟩ := Hr.out.at_ hx
      subst hA
      have hnl := numB_lt (xs.take k) (fun y hy => Hb.out y (List.mem_of_mem_take hy))
      have hle : numB (xs.take k) < 72057594037927936 := by
        refine Nat.lt_of_lt_of_le hnl ?_
        rw [show (72057594037927936 : Nat) = 256 ^ 7 by rfl]
        exact Nat.pow_le_pow_right (by omega) (by rw [List.length_take, Hl.out]; omega)
      have Hx := Lib.hid hx; clear hx hnl
      go_wp2
      go_round
      case rel => exact ⟨k + 1, by omega, by go_num, by rw [take_succ_of Hx.out, numB_snoc]; go_num⟩
      case measure => simp [intOf]; omega
    · obtain rfl : k = n := by omega
      have e : xs.take k = xs := List.take_of_length_le (by rw [Hl.out]; omega)
      rw [e]
      clear e
      go_wp2
      go_ret
      exact ⟨rfl, rfl⟩

theorem or_byte64 (a x : Nat) (ha : a < 72057594037927936) (hx : x < 256) : bits .or .u64 ((a : Int) * 256) (x : Int) = ((a * 256 + x : Nat) : Int) := by
  have e : ((a : Int) * 256) = ((a * 256 : Nat) : Int) := by omega
  rw [e, Go.u64_or_nat _ _ (by omega) (by omega)]
  congr 1
  have h := Nat.two_pow_add_eq_or_of_lt (i := 8) (b := x) (by omega) a
  simp only [Nat.reducePow] at h
  rw [Nat.mul_comm a 256]
  exact h.symm
set_option maxHeartbeats 1000000 in
theorem tokNumber_any (w : World) (A : Option Addr) (n c : Nat) (xs : List Nat) (hl : xs.length = n) (hn : n ≤ 8) (hb : ∀ x ∈ xs, x < 256) (hr : Rd w A (vals .u8 xs)) :
    Calls Try.prog 69 #[.slice A n c] w fun e w' => e = .returned (.int .u64 (numB xs : Int)) ∧ w = w' := by
  have Hl := Lib.hid hl; have Hb := Lib.hid hb; have Hr := Lib.hid hr; clear hl hb hr
  go_enter Try.func69, Try.ntmps69
  go_wp2_with fail
  go_loop [3, 8] (fun x i => ∃ k : Nat, k ≤ n ∧ i = .int .i64 k ∧ x = .int .u64 ((numB (xs.take k) : Nat) : Int)) (fun _ i => n - (intOf i).toNat)
  case atStart => exact ⟨0, Nat.zero_le _, rfl, by rw [List.take_zero, numB_nil]; rfl⟩
  case round =>
    obtain ⟨k, hk, rfl, rfl⟩ := hrel
    by_cases hlt : k < n
    · obtain ⟨x, hx⟩ := get_of_lt (xs := xs) (j := k) (by rw [Hl.out]; exact hlt)
      have hx256 : x < 256 := Hb.out x (List.mem_of_getElem? hx)
      obtain ⟨b, off, hA, hc⟩ := Hr.out.at_ hx
      subst hA
      have hnl := numB_lt (xs.take k) (fun y hy => Hb.out y (List.mem_of_mem_take hy))
      have hle : numB (xs.take k) < 72057594037927936 := by
        refine Nat.lt_of_lt_of_le hnl ?_
        rw [show (72057594037927936 : Nat) = 256 ^ 7 by rfl]
        exact Nat.pow_le_pow_right (by omega) (by rw [List.length_take, Hl.out]; omega)
      have Hx := Lib.hid hx; clear hx hnl
      go_wp2
      go_round
      case rel => exact ⟨k + 1, by omega, by go_num, by rw [take_succ_of Hx.out, numB_snoc, or_byte64 _ _ hle hx256]⟩
      case measure => simp [intOf]; omega
    · obtain rfl : k = n := by omega
      have e : xs.take k = xs := List.take_of_length_le (by rw [Hl.out]; omega)
      rw [e]
      clear e
      go_wp2
      go_ret
      exact ⟨rfl, rfl⟩
end

section
open Go.RowKit
def RetBE (xs : List Nat) (er : Int) (w : World) (e : Ending) (w' : World) : Prop :=
  ∃ A c, e = .returned (.tuple #[.slice A xs.length c, .int .i64 er]) ∧ w'.ownsRow w.heap.size 5 1 (.slice A xs.length c) xs.length (vals .u8 xs) ∧ Ext w w'
theorem retBE_of {n c : Nat} {xs : List Nat} {er : Int} (hl : xs.length = n) {w w' : World} {A : Option Addr} (ho : w'.ownsRow w.heap.size 5 1 (.slice A n c) n (vals .u8 xs)) (hb : Ext w w') :
    RetBE xs er w (.returned (.tuple #[.slice A n c, .int .i64 er])) w' := by
  subst hl
  exact ⟨A, c, rfl, ho, hb⟩
end

section
open Go.RowKit

theorem own1 (w : World) (x : Nat) : (w.alloc (.cells #[.int .u8 (x : Int)] 5)).ownsRow w.heap.size 5 1 (.slice (some ⟨w.heap.size, 0, none⟩) 1 1) 1 (vals .u8 [x]) := own_made w [.int .u8 (x : Int)] 5 1 1 rfl (by unfold maxLen; omega) (Nat.le_refl _)

set_option maxHeartbeats 400000 in
theorem ident_ok (p : Nat) (A : Option Addr) (n c : Nat) (xs : List Nat) (w : World) (hp : p < 32) (hl : xs.length = n) (hn : n ≤ 255) (hr : Rd w A (vals .u8 xs)) :
    Calls Try.prog 65 #[.int .i64 (p : Int), .slice A n c] w (RetBE (p :: xs) 0 w) := by
  have Hl := Lib.hid hl; clear hl
  have Hr := Lib.hid hr; clear hr
  go_enter Try.func65, Try.ntmps65
  go_wp2_with (at_builtin; refine app_u8 _ rfl (.tmp 19) (.tmp 20) rfl w.heap.size rfl (own1 w p) rfl Hl.out (Hr.out.alloc _) (by omega) (by simp) ?_; intro A' c' w1 hown hgrow _)
  go_ret2
  exact retBE_of (by rw [List.length_cons, Hl.out, Nat.add_comm]) hown (((Ext.refl w).alloc _).grown hgrow (by simp [Value.ownBlock]))
theorem ident_arg (p : Int) (A : Option Addr) (n c : Nat) (w : World) (hp : p < 0 ∨ 32 ≤ p) :
    Calls Try.prog 65 #[.int .i64 p, .slice A n c] w fun e w' => e = .returned (.tuple #[.slice none 0 0, .int .i64 1]) ∧ w = w' := by
  rcases hp with h | h
  · go_enter Try.func65, Try.ntmps65
    go_wp2
    go_ret2
    exact ⟨rfl, rfl⟩
  · have h' : ¬ p < 0 := by omega
    go_enter Try.func65, Try.ntmps65
    go_wp2
    go_ret2
    exact ⟨rfl, rfl⟩
theorem ident_long (p : Int) (A : Option Addr) (n c : Nat) (w : World) (hp : 0 ≤ p) (hp' : p < 32) (hn : 255 < n) :
    Calls Try.prog 65 #[.int .i64 p, .slice A n c] w fun e w' => e = .returned (.tuple #[.slice none 0 0, .int .i64 2]) ∧ w = w' := by
  go_enter Try.func65, Try.ntmps65
  go_wp2
  go_ret2
  exact ⟨rfl, rfl⟩
end

section
open Go.RowKit

def stepH (h x : Nat) : Nat := (h ^^^ x) * 1099511628211 % 18446744073709551616
def upd (h : Nat) (xs : List Nat) : Nat := xs.foldl stepH h
theorem stepH_lt (h x : Nat) : stepH h x < 18446744073709551616 := by unfold stepH; omega
theorem upd_nil (h : Nat) : upd h [] = h := by rw [upd, List.foldl_nil]
theorem upd_cons (h x : Nat) (xs : List Nat) : upd h (x :: xs) = upd (stepH h x) xs := by rw [upd, List.foldl_cons, upd]
theorem upd_append (h : Nat) (xs ys : List Nat) : upd h (xs ++ ys) = upd (upd h xs) ys := by rw [upd, List.foldl_append, upd, upd]
theorem upd_snoc (h : Nat) (xs : List Nat) (x : Nat) : upd h (xs ++ [x]) = stepH (upd h xs) x := by rw [upd_append, upd_cons, upd_nil]
theorem upd_lt (h : Nat) (xs : List Nat) (hh : h < 18446744073709551616) : upd h xs < 18446744073709551616 := by
  induction xs generalizing h with
  | nil => rw [upd_nil]; exact hh
  | cons x xs ih => rw [upd_cons]; exact ih _ (stepH_lt h x)
theorem stepH_val (h x : Nat) : IntKind.u64.wrap (((h ^^^ x : Nat) : Int) * 1099511628211) = ((stepH h x : Nat) : Int) := by
  rw [IntKind.wrap_u64, stepH]; omega

theorem xor_split (H x : Nat) (hx : x < 256) : H / 256 * 256 + ((H % 256) ^^^ x) = H ^^^ x := by
  have h1 : (H ^^^ x) / 256 = H / 256 := by
    have := @Nat.xor_div_two_pow H x 8
    simp only [Nat.reducePow] at this
    rw [this, Nat.div_eq_of_lt hx, Nat.xor_zero]
  have h2 : (H ^^^ x) % 256 = (H % 256) ^^^ x := by
    have := @Nat.xor_mod_two_pow H x 8
    simp only [Nat.reducePow] at this
    rw [this, Nat.mod_eq_of_lt hx]
  omega

theorem xor_lt64 (H x : Nat) (hH : H < 18446744073709551616) (hx : x < 256) : H ^^^ x < 18446744073709551616 := by
  have := @Nat.xor_lt_two_pow H x 64 (by omega) (by omega)
  simpa using this

/-- the document's byte: its xor in halves -/
theorem refX (H x : Nat) (hH : H < 18446744073709551616) (hx : x < 256) :
    IntKind.u64.wrap ((H : Int) / 256 * 256 + IntKind.u64.wrap (bits .xor .u8 ((H : Int) % 256) (x : Int))) = ((H ^^^ x : Nat) : Int) := by
  have e : ((H : Int) % 256) = ((H % 256 : Nat) : Int) := by omega
  have h3 := xor_split H x hx
  have h4 := xor_lt64 H x hH hx
  have h5 := xor_lt64 (H % 256) x (by omega) hx
  have h6 := IntWalk.u64_in ((H % 256 ^^^ x : Nat) : Int) (by omega)
  rw [e, Go.u8_xor_nat _ _ (by omega) hx, h6, IntWalk.u64_in _ (by omega)]
  omega
theorem refStep (X : Nat) (hX : X < 18446744073709551616) :
    IntKind.u64.wrap (IntKind.u64.wrap (bits .and .u64 (X : Int) 4294967295 * 435) +
      IntKind.u64.wrap (IntKind.u64.wrap (IntKind.u64.wrap ((X : Int) / 4294967296 * 435) + IntKind.u64.wrap (bits .and .u64 (X : Int) 4294967295 * 256)) * 4294967296)) =
    ((X * 1099511628211 % 18446744073709551616 : Nat) : Int) := by
  have e : bits .and .u64 (X : Int) 4294967295 = ((X % 4294967296 : Nat) : Int) := by
    have := Go.u64_and_nat X 4294967295 hX (by omega)
    rw [show ((4294967295 : Nat) : Int) = (4294967295 : Int) from rfl] at this
    rw [this, show (4294967295 : Nat) = 2 ^ 32 - 1 from rfl, Nat.and_two_pow_sub_one_eq_mod]
  rw [e]
  simp only [IntKind.wrap_u64]
  omega
theorem refStepH (H x : Nat) (hH : H < 18446744073709551616) (hx : x < 256) {W : Int} (hW : W = ((H ^^^ x : Nat) : Int)) :
    IntKind.u64.wrap (IntKind.u64.wrap (bits .and .u64 W 4294967295 * 435) +
      IntKind.u64.wrap (IntKind.u64.wrap (IntKind.u64.wrap (W / 4294967296 * 435) + IntKind.u64.wrap (bits .and .u64 W 4294967295 * 256)) * 4294967296)) =
    ((stepH H x : Nat) : Int) := by
  rw [hW, refStep _ (xor_lt64 H x hH hx), stepH]

/-- which of 2^level shards -/
def shardN (s level : Nat) : Nat := s % 2 ^ level
theorem and_mask (X m : Nat) (hX : X < 18446744073709551616) (hm : 2 ^ m - 1 < 18446744073709551616) : bits .and .u64 (X : Int) ((2 ^ m - 1 : Nat) : Int) = ((shardN X m : Nat) : Int) := by
  rw [Go.u64_and_nat X _ hX hm, Nat.and_two_pow_sub_one_eq_mod, shardN]
theorem shardN_lt (s level : Nat) (h : level ≤ 4) : shardN s level < 16 := by
  unfold shardN
  have : level = 0 ∨ level = 1 ∨ level = 2 ∨ level = 3 ∨ level = 4 := by omega
  rcases this with rfl | rfl | rfl | rfl | rfl <;> omega
theorem mask_val {S : Nat} (m : Nat) {k : Int} (hS : S < 18446744073709551616) (hv : m ≤ 4) (hk : k = ((2 ^ m - 1 : Nat) : Int)) : wrap64 (bits .and .u64 (S : Int) k) = ((shardN S m : Nat) : Int) := by
  have h1 := shardN_lt S m hv
  have h2 : 2 ^ m - 1 < 18446744073709551616 := by
    have : m = 0 ∨ m = 1 ∨ m = 2 ∨ m = 3 ∨ m = 4 := by omega
    rcases this with rfl | rfl | rfl | rfl | rfl <;> omega
  rw [hk, and_mask S m hS h2, IntWalk.wrap64_in _ (by omega)]
theorem mod_val {S : Nat} (m : Nat) {k : Int} (hv : m ≤ 4) (hk : k = ((2 ^ m : Nat) : Int)) : wrap64 ((S : Int) % k) = ((shardN S m : Nat) : Int) := by
  have h1 := shardN_lt S m hv
  have h2 : (S : Int) % ((2 ^ m : Nat) : Int) = ((shardN S m : Nat) : Int) := by rw [shardN]; rfl
  rw [hk, h2, IntWalk.wrap64_in _ (by omega)]
end

section
open Go.RowKit

set_option maxHeartbeats 400000 in
theorem update_any (h : Nat) (A : Option Addr) (n c : Nat) (xs : List Nat) (w : World) (hl : xs.length = n) (hb : ∀ x ∈ xs, x < 256) (hn : n ≤ 9223372036854775807) (hh : h < 18446744073709551616) (hr : Rd w A (vals .u8 xs)) :
    Calls Try.prog 100 #[.int .u64 (h : Int), .slice A n c] w fun e w' => e = .returned (.int .u64 ((upd h xs : Nat) : Int)) ∧ w = w' := by
  have Hr := Lib.hid hr; have Hb := Lib.hid hb; have Hl := Lib.hid hl; clear hr hb hl
  go_enter Try.func100, Try.ntmps100
  go_wp2
  go_loop [0, 9] (fun h' i => ∃ k : Nat, k ≤ n ∧ i = .int .i64 k ∧ h' = .int .u64 ((upd h (xs.take k) : Nat) : Int)) (fun _ i => n - (intOf i).toNat)
  case atStart => exact ⟨0, Nat.zero_le _, rfl, rfl⟩
  case round =>
    obtain ⟨k, hk, rfl, rfl⟩ := hrel
    have hu := upd_lt h (xs.take k) hh
    by_cases hlt : k < n
    · obtain ⟨x, hx⟩ := get_of_lt (xs := xs) (j := k) (by rw [Hl.out]; exact hlt)
      have hx256 : x < 256 := Hb.out x (List.mem_of_getElem? hx)
      obtain ⟨b, off, hA, _, hc⟩ := Hr.out.at_ hx
      have Hx := Lib.hid hx; clear hx
      subst hA
      go_wp2
      go_round
      case rel => exact ⟨k + 1, by omega, by go_num, by rw [take_succ_of Hx.out, upd_snoc, ← stepH_val, Go.u64_xor_nat _ _ hu (by omega)]⟩
      case measure => simp [intOf]; omega
    · go_wp2
      go_ret
      exact ⟨ret_int (by rw [List.take_of_length_le (by rw [Hl.out]; omega)]), rfl⟩

set_option maxHeartbeats 400000 in
theorem refUpdate_any (h : Nat) (A : Option Addr) (n c : Nat) (xs : List Nat) (w : World) (hl : xs.length = n) (hb : ∀ x ∈ xs, x < 256) (hn : n ≤ 9223372036854775807) (hh : h < 18446744073709551616) (hr : Rd w A (vals .u8 xs)) :
    Calls Try.prog 108 #[.int .u64 (h : Int), .slice A n c] w fun e w' => e = .returned (.int .u64 ((upd h xs : Nat) : Int)) ∧ w = w' := by
  have Hr := Lib.hid hr; have Hb := Lib.hid hb; have Hl := Lib.hid hl; clear hr hb hl
  go_enter Try.func108, Try.ntmps108
  go_wp2
  go_loop [0, 12] (fun h' i => ∃ k : Nat, k ≤ n ∧ i = .int .i64 k ∧ h' = .int .u64 ((upd h (xs.take k) : Nat) : Int)) (fun _ i => n - (intOf i).toNat)
  case atStart => exact ⟨0, Nat.zero_le _, rfl, rfl⟩
  case round =>
    obtain ⟨k, hk, rfl, rfl⟩ := hrel
    have hu := upd_lt h (xs.take k) hh
    by_cases hlt : k < n
    · obtain ⟨x, hx⟩ := get_of_lt (xs := xs) (j := k) (by rw [Hl.out]; exact hlt)
      have hx256 : x < 256 := Hb.out x (List.mem_of_getElem? hx)
      obtain ⟨b, off, hA, _, hc⟩ := Hr.out.at_ hx
      have Hx := Lib.hid hx; clear hx
      subst hA
      go_wp2
      go_round
      case rel => exact ⟨k + 1, by omega, by go_num, int_eq (by rw [take_succ_of Hx.out, upd_snoc]; exact refStepH _ x hu hx256 (refX _ x hu hx256))⟩
      case measure => simp [intOf]; omega
    · go_wp2
      go_ret
      exact ⟨ret_int (by rw [List.take_of_length_le (by rw [Hl.out]; omega)]), rfl⟩

theorem sum_any (A : Option Addr) (n c : Nat) (xs : List Nat) (w : World) (hl : xs.length = n) (hb : ∀ x ∈ xs, x < 256) (hn : n ≤ 9223372036854775807) (hr : Rd w A (vals .u8 xs)) :
    Calls Try.prog 67 #[.slice A n c] w fun e w' => e = .returned (.int .u64 ((upd 14695981039346656037 xs : Nat) : Int)) ∧ w = w' := by
  have c1 := Lib.hid (update_any 14695981039346656037 A n c xs w hl hb hn (by omega) hr)
  clear hr hb hl
  go_enter Try.func67, Try.ntmps67
  go_wp2_with fail
  refine c1.out.mono ?_
  rintro e w' ⟨rfl, rfl⟩
  go_wp2
  go_ret
  exact ⟨rfl, rfl⟩
theorem refSum_any (A : Option Addr) (n c : Nat) (xs : List Nat) (w : World) (hl : xs.length = n) (hb : ∀ x ∈ xs, x < 256) (hn : n ≤ 9223372036854775807) (hr : Rd w A (vals .u8 xs)) :
    Calls Try.prog 101 #[.slice A n c] w fun e w' => e = .returned (.int .u64 ((upd 14695981039346656037 xs : Nat) : Int)) ∧ w = w' := by
  have c1 := Lib.hid (refUpdate_any 14695981039346656037 A n c xs w hl hb hn (by omega) hr)
  clear hr hb hl
  go_enter Try.func101, Try.ntmps101
  go_wp2_with fail
  refine c1.out.mono ?_
  rintro e w' ⟨rfl, rfl⟩
  go_wp2
  go_ret
  exact ⟨rfl, rfl⟩
end

section
open Go.RowKit

theorem wordB_drop (v n : Nat) : ∀ j, j ≤ n → (wordB v n).drop j = wordB v (n - j) := by
  induction n with
  | zero => intro j hj; obtain rfl : j = 0 := by omega
            rfl
  | succ n ih =>
    intro j hj
    cases j with
    | zero => rfl
    | succ j => rw [wordB, List.drop_succ_cons, ih j (by omega)]; congr 1; omega
theorem wordB_get (v n j : Nat) (h : j < n) : (wordB v n)[j]? = some (v / 256 ^ (n - 1 - j) % 256) := by
  have e := wordB_drop v n j (by omega)
  have e2 : n - j = (n - 1 - j) + 1 := by omega
  rw [e2, wordB] at e
  rw [← List.head?_drop, e]
  rfl

theorem rd_one (w : World) (X : Int) (y : Nat) (h : X = (y : Int)) : Rd (w.alloc (.cells #[.int .u8 X] 5)) (some ⟨w.heap.size, 0, none⟩) (vals .u8 [y]) := by
  subst h
  exact rd_new w [.int .u8 (y : Int)] _
theorem shr_byte (v i : Nat) : ((v : Int) / 2 ^ (8 * i) % 256) = ((v / 256 ^ i % 256 : Nat) : Int) := by
  rw [show (256 : Nat) ^ i = 2 ^ (8 * i) from (Nat.pow_mul 2 8 i).symm]
  simp only [Int.natCast_emod, Int.natCast_ediv, Int.natCast_pow]
  rfl
set_option maxHeartbeats 2000000 in
theorem tokWord_any (w w0 : World) (base : Nat) (A : Option Addr) (m c : Nat) (xs : List Nat) (v n : Nat) (hl : xs.length = m) (ho : w.ownsRow base 5 1 (.slice A m c) m (vals .u8 xs)) (hx : Ext w0 w) (hbase : w0.heap.size ≤ base) (hbw : base ≤ w.heap.size)
    (_hv : v < 18446744073709551616) (hn : n ≤ 8) (hm : m ≤ 1000000) :
    Calls Try.prog 66 #[.slice A m c, .int .u64 (v : Int), .int .i64 (n : Int)] w fun e w' => ∃ A' c', e = .returned (.slice A' (m + n) c') ∧ w'.ownsRow base 5 1 (.slice A' (m + n) c') (m + n) (vals .u8 (xs ++ wordB v n)) ∧ Ext w0 w' ∧ w.heap.size ≤ w'.heap.size := by
  have Ho := Lib.hid ho; have Hl := Lib.hid hl; clear ho hl
  go_enter Try.func66, Try.ntmps66
  go_wp2_with fail
  go_loopg [0, 7] n (fun g v0 v7 wr => ∃ (j : Nat) (A' : Option Addr) (c' : Nat), j ≤ n ∧ g = n - j ∧ v0 = .slice A' (m + j) c' ∧ v7 = .int .i64 ((n : Int) - 1 - (j : Int)) ∧ Ext w0 wr ∧ w.heap.size ≤ wr.heap.size ∧
    wr.ownsRow base 5 1 (.slice A' (m + j) c') (m + j) (vals .u8 (xs ++ (wordB v n).take j)))
  case atStart =>
    exact ⟨0, A, c, Nat.zero_le _, rfl, rfl, by go_num, hx, Nat.le_refl _, by simpa using Ho.out⟩
  case round =>
    obtain ⟨j, A', c', hj, rfl, rfl, rfl, hxr, hsz, hor⟩ := hrel
    have Hxr := Lib.hid hxr; clear hxr
    by_cases hlt : j < n
    · have hg := Lib.hid (wordB_get v n j hlt)
      obtain ⟨i, hi⟩ : ∃ i, i = n - 1 - j := ⟨_, rfl⟩
      have hi7 : i ≤ 7 := by omega
      have hji : ((n : Int) - 1 - (j : Int)) = (i : Int) := by omega
      rw [hji]
      rw [← hi] at hg
      have Hi := Lib.hid hi; clear hi hji
      have hs1 : wr.heap.size ≥ base := by omega
      have hib := Lib.hid (shr_byte v i)
      go_wp2_with (first | (at_builtin; refine app_u8 _ rfl (.tmp 14) (.tmp 20) rfl base rfl (hor.alloc _) rfl (m := 1) (news := [v / 256 ^ i % 256]) rfl (rd_one _ _ _ hib.out) (by omega) (by simp; omega) ?_; intro A1 c1 w1 hown1 hgrow1 _) | fail)
      go_roundg (n - (j + 1))
      case measure => omega
      case rel =>
        refine ⟨j + 1, A1, c1, hlt, rfl, rfl, by have := Hi.out; go_num, (Hxr.out.alloc _).grown hgrow1 (fun k hk => Nat.le_trans hbase (own_ge hor k hk)), by have := hgrow1.size; simp at this; omega, ?_⟩
        rw [take_succ_of hg.out, ← List.append_assoc]
        exact hown1
    · obtain rfl : j = n := by omega
      have e : (wordB v j).take j = wordB v j := List.take_of_length_le (by rw [wordB_len]; omega)
      rw [e] at hor
      have Hor := Lib.hid hor
      clear hor e
      go_wp2_with fail
      go_ret
      exact ⟨A', c', rfl, Hor.out, Hxr.out, hsz⟩
end

section
open Go.RowKit

theorem own_drew {w : World} {base : Nat} {e : TypeId} {size : Nat} {v : Value} {n : Nat} {xs : List Value} (h : w.ownsRow base e size v n xs) : w.drew.ownsRow base e size v n xs := h
theorem Rd.drew {w : World} {A : Option Addr} {vs : List Value} (h : Rd w A vs) : Rd w.drew A vs := h
theorem step_app_u8 {ops : Array Oper} {o : Oper} {a : Act} {K : Act → World → Prop} {Q : Exit → Act → World → Prop} {E : Prop} (w : World) (hgd : o.guard = none) (s x : Operand)
    (ho : o.op = .call { callee := .builtin .append, args := #[s, x], argTypes := #[28, 28] })
    (base : Nat) {B : Option Addr} {n cb : Nat} {xs : List Nat} (hs : a.eval s = .slice B n cb) (hown : w.ownsRow base 5 1 (.slice B n cb) n (vals .u8 xs))
    {A : Option Addr} {m c : Nat} {news : List Nat} (hx : a.eval x = .slice A m c) (hl : news.length = m) (hr : Rd w A (vals .u8 news)) (hb : n + m ≤ 140737488355328) (hbase : base ≤ w.heap.size)
    (h : ∀ B' cb' w', w'.ownsRow base 5 1 (.slice B' (n + m) cb') (n + m) (vals .u8 (xs ++ news)) → w.grownBy w' (Value.slice B n cb).ownBlock →
      ((Value.slice B' (n + m) cb').ownBlock = (Value.slice B n cb).ownBlock ∨ (Value.slice B' (n + m) cb').ownBlock = some w.heap.size) → K (a.put o.dst (.slice B' (n + m) cb')) w') :
    if Region.wanted o (yielded ops a.tmps) = true then Oper.wp Try.prog o a w K Q else E := by
  have hw : Region.wanted o (yielded ops a.tmps) = true := by simp [Region.wanted, hgd]
  rw [if_pos hw]
  obtain ⟨i0, hi, hz0, hz1, hz2⟩ := info_parts info_u8
  exact wp_append_rd w s x 28 ho base 5 Try.underlying28 hi hz0 hz1 hz2 rfl (by decide) hs hown hx (by rw [vals_len, hl, Nat.mul_one]) hr (vals_one _ _) (by unfold maxLen; omega) (by omega) hbase
    fun B' cb' w' h2 h3 h4 => h B' cb' w' (by rw [vals_append]; exact h2) h3 h4
end

section
open Go.RowKit

/-- a token's bytes ahead of the sum; all of them -/
def bodyT (p : Nat) (xs : List Nat) (s : Nat) : List Nat := 83 :: 71 :: p :: xs.length :: (xs ++ wordB s 8)
def sumT (b : List Nat) : Nat := upd 14695981039346656037 b % 4294967296
def tokB (p : Nat) (xs : List Nat) (s : Nat) : List Nat := bodyT p xs s ++ wordB (sumT (bodyT p xs s)) 4
theorem bodyT_len (p : Nat) (xs : List Nat) (s : Nat) : (bodyT p xs s).length = xs.length + 12 := by
  simp only [bodyT, List.length_cons, List.length_append, wordB_len]
theorem tokB_len (p : Nat) (xs : List Nat) (s : Nat) : (tokB p xs s).length = xs.length + 16 := by
  rw [tokB, List.length_append, bodyT_len, wordB_len]
/-- a token's value -/
abbrev tokV (p : Int) (A : Option Addr) (n c : Nat) (s : Int) : Value := .agg #[.int .i64 p, .slice A n c, .int .i64 s]

theorem tokEncode_arg (w : World) (p s : Int) (A : Option Addr) (n c : Nat) (h : s < 1 ∨ 4611686018427387903 < s ∨ p < 0 ∨ 32 ≤ p) :
    Calls Try.prog 30 #[tokV p A n c s] w (RetE (.tuple #[.slice none 0 0, .int .i64 1]) w) := by
  by_cases hs : s < 1 ∨ 4611686018427387903 < s
  · rcases hs with hs | hs
    · go_enter Try.func30, Try.ntmps30
      go_wp2_with fail
      go_ret2
      exact ⟨rfl, (Ext.refl w).alloc _⟩
    · have hs' : ¬ s < 1 := by omega
      go_enter Try.func30, Try.ntmps30
      go_wp2_with fail
      go_ret2
      exact ⟨rfl, (Ext.refl w).alloc _⟩
  · have h1 : ¬ s < 1 := by omega
    have h2 : ¬ 4611686018427387903 < s := by omega
    have hp : p < 0 ∨ 32 ≤ p := by omega
    clear hs h
    go_enter Try.func30, Try.ntmps30
    go_wp2_with fail
    refine (ident_arg p A n c _ hp).mono ?_
    rintro e w1 ⟨rfl, rfl⟩
    go_wp2_with fail
    go_ret2
    exact ⟨rfl, (Ext.refl w).alloc _⟩
theorem tokEncode_long (w : World) (p s : Int) (A : Option Addr) (n c : Nat) (h1 : 1 ≤ s) (h2 : s ≤ 4611686018427387903) (h3 : 0 ≤ p) (h4 : p < 32) (hn : 255 < n) :
    Calls Try.prog 30 #[tokV p A n c s] w (RetE (.tuple #[.slice none 0 0, .int .i64 2]) w) := by
  have h1' : ¬ s < 1 := by omega
  have h2' : ¬ 4611686018427387903 < s := by omega
  go_enter Try.func30, Try.ntmps30
  go_wp2_with fail
  refine (ident_long p A n c _ h3 h4 hn).mono ?_
  rintro e w1 ⟨rfl, rfl⟩
  go_wp2_with fail
  go_ret2
  exact ⟨rfl, (Ext.refl w).alloc _⟩
theorem and_sum (u : Nat) (hu : u < 18446744073709551616) : bits .and .u64 (u : Int) 4294967295 = ((u % 4294967296 : Nat) : Int) := by
  rw [show (4294967295 : Int) = ((4294967295 : Nat) : Int) from rfl, Go.u64_and_nat u 4294967295 hu (by omega)]
  have h := Nat.and_two_pow_sub_one_eq_mod u 32
  simp only [Nat.reducePow, Nat.reduceSub] at h
  rw [h]
theorem own_head4 (w : World) (p n : Nat) : (w.alloc (.cells #[.int .u8 83, .int .u8 71, .int .u8 (p : Int), .int .u8 (n : Int)] 5)).ownsRow w.heap.size 5 1 (.slice (some ⟨w.heap.size, 0, none⟩) 4 4) 4 (vals .u8 [83, 71, p, n]) :=
  own_made w _ 5 1 4 rfl (by unfold maxLen; omega) (Nat.le_refl _)

set_option maxHeartbeats 2000000 in
theorem tokEncode_ok (w : World) (p s : Nat) (A : Option Addr) (n c : Nat) (xs : List Nat) (hl : xs.length = n) (hb : ∀ x ∈ xs, x < 256) (hr : Rd w A (vals .u8 xs)) (h1 : 1 ≤ s) (h2 : s ≤ 4611686018427387903) (h4 : p < 32) (hn : n ≤ 255) :
    Calls Try.prog 30 #[tokV (p : Int) A n c (s : Int)] w (RetBE (tokB p xs s) 0 w) := by
  have Hl := Lib.hid hl; have Hr := Lib.hid hr; have Hb := Lib.hid hb; clear hl hr hb
  go_enter Try.func30, Try.ntmps30
  go_wp2_with fail
  refine (ident_ok p A n c xs _ h4 Hl.out hn (Hr.out.alloc _)).mono ?_
  rintro e w1 ⟨A1, c1, rfl, hown1, hx1⟩
  have hl1 : (p :: xs).length = n + 1 := by rw [List.length_cons, Hl.out]
  rw [hl1] at hown1 ⊢
  clear hl1
  obtain ⟨g, rfl, hg, hg'⟩ := own_block hown1 (by omega)
  have hc0 := hown1.cellAt 0 (by omega)
  have hc0' : w1.cell? ⟨g, 0, none⟩ = some (.int .u8 (p : Int)) := by rw [hc0]; rfl
  have hcap := own_cap hown1
  obtain ⟨d, hd⟩ : ∃ d, c1 = d + 1 := ⟨c1 - 1, by omega⟩
  obtain ⟨A2, hsl, hrd, _⟩ := slice_from_any Try.underlying28 size_u8 (A := some ⟨g, 0, none⟩) (n := n + 1) (c := c1) (m := n) (d := d) 1 (ki := 1) rfl hcap rfl hd
  have hr2 := Lib.hid (hrd w1 (vals .u8 (p :: xs)) (by rw [vals_len, List.length_cons, Hl.out]) (Rd.of_own hown1))
  have hb0 : w1.cell? ⟨w.heap.size, 1, none⟩ = some (.slice A n c) := by
    rw [hx1.cell (p := ⟨w.heap.size, 1, none⟩) (by simp)]
    exact World.cell?_alloc_new _ _ _ _
  have hb2 : w1.cell? ⟨w.heap.size, 2, none⟩ = some (.int .i64 (s : Int)) := by
    rw [hx1.cell (p := ⟨w.heap.size, 2, none⟩) (by simp)]
    exact World.cell?_alloc_new _ _ _ _
  clear hc0 hown1 hrd
  have Hd := Lib.hid hd; clear hd
  go_upto_region 6 with fail
  go_cut [6] (fun v wd => ∃ A6 c6, v = .slice A6 (4 + n) c6 ∧ wd.ownsRow w1.heap.size 5 1 (.slice A6 (4 + n) c6) (4 + n) (vals .u8 ([83, 71, p, n] ++ xs)) ∧ Ext w1 wd)
  case first =>
    have hwn : IntKind.u8.wrap (n : Int) = (n : Int) := by rw [IntKind.wrap_u8]; omega
    have hoo : (w1.alloc (.cells #[.int .u8 83, .int .u8 71, .int .u8 (p : Int), .int .u8 (n : Int)] 5)).drew.ownsRow w1.heap.size 5 1 (.slice (some ⟨w1.heap.size, 0, none⟩) 4 4) 4 (vals .u8 [83, 71, p, n]) := own_head4 w1 p n
    have hrr : Rd (w1.alloc (.cells #[.int .u8 83, .int .u8 71, .int .u8 (p : Int), .int .u8 (n : Int)] 5)).drew A2 (vals .u8 xs) := (hr2.out.alloc _).drew
    have Hoo := Lib.hid hoo; have Hrr := Lib.hid hrr; clear hoo hrr
    go_region_law ((refine step_app_u8 (w1.alloc (.cells #[.int .u8 83, .int .u8 71, .int .u8 (p : Int), .int .u8 (n : Int)] 5)).drew rfl (.tmp 33) (.tmp 35) rfl w1.heap.size (B := some ⟨w1.heap.size, 0, none⟩) (n := 4) (cb := 4) (xs := [83, 71, p, n]) (by simp [Act.eval]) Hoo.out (A := A2) (m := n) (c := d) (news := xs) (by simp [Act.eval]) Hl.out Hrr.out (by omega) (by simp) ?_; intro A6 c6 w6 hown6 hgrow6 _))
    all_goals
      go_wp2_with fail
      go_meet
      exact ⟨_, _, rfl, by assumption, (((Ext.refl w1).alloc _).drew).grown (by assumption) (by simp [Value.ownBlock])⟩
  case rest =>
    obtain ⟨A6, c6, rfl, hown6, hy6⟩ := hcut
    have hk2 : wc.cell? ⟨w.heap.size, 2, none⟩ = some (.int .i64 (s : Int)) := by
      rw [hy6.cell (p := ⟨w.heap.size, 2, none⟩) (World.block_lt_of_cell? w1 _ hb2)]; exact hb2
    have Hown6 := Lib.hid hown6; clear hown6 hb0 hb2 hc0'
    have hl6 : ([83, 71, p, n] ++ xs).length = 4 + n := by rw [List.length_append, Hl.out]; rfl
    have Hl6 := Lib.hid hl6; clear hl6
    have hs6 : w1.heap.size ≤ wc.heap.size := hy6.size
    go_wp2_with fail
    refine (tokWord_any wc w1 w1.heap.size A6 (4 + n) c6 _ s 8 Hl6.out Hown6.out hy6 (Nat.le_refl _) hs6 (by omega) (by omega) (by omega)).mono ?_
    rintro e w7 ⟨A7, c7, rfl, hown7, hy7, hs7⟩
    have hbody : [83, 71, p, n] ++ xs ++ wordB s 8 = bodyT p xs s := by rw [bodyT, Hl.out]; rfl
    rw [hbody] at hown7
    have hbl : (bodyT p xs s).length = 4 + n + 8 := by rw [bodyT_len, Hl.out]; omega
    have hbb : ∀ x ∈ bodyT p xs s, x < 256 := fun x hx => by
      simp only [bodyT, List.mem_cons, List.mem_append] at hx
      rcases hx with rfl | rfl | rfl | rfl | hx | hx
      · omega
      · omega
      · omega
      · have := Hl.out; omega
      · exact Hb.out x hx
      · exact wordB_lt _ _ x hx
    have Hown7 := Lib.hid hown7; have Hbl := Lib.hid hbl; have Hbb := Lib.hid hbb; clear hown7 hbody hbl hbb
    have hr7 := Lib.hid (Rd.of_own Hown7.out)
    clear Hown6
    go_wp2_with fail
    refine (sum_any A7 (4 + n + 8) c7 (bodyT p xs s) w7 Hbl.out Hbb.out (by omega) hr7.out).mono ?_
    rintro e w8 ⟨rfl, rfl⟩
    go_wp2_with fail
    rw [and_sum _ (upd_lt _ _ (by omega))]
    refine (tokWord_any w7 w1 w1.heap.size A7 (4 + n + 8) c7 _ (sumT (bodyT p xs s)) 4 Hbl.out Hown7.out hy7 (Nat.le_refl _) (by omega) (Nat.lt_trans (Nat.mod_lt _ (by omega)) (by omega)) (by omega) (by omega)).mono ?_
    rintro e w9 ⟨A9, c9, rfl, hown9, hy9, hs9⟩
    have hlt : (tokB p xs s).length = 4 + n + 8 + 4 := by rw [tokB_len, Hl.out]; omega
    have Hlt := Lib.hid hlt; have Hown9 := Lib.hid hown9; clear hlt hown9
    go_wp2_with fail
    go_ret2
    have hx9 : Ext w w9 := (((Ext.refl w).alloc _).trans hx1).trans hy9
    exact retBE_of Hlt.out (own_base Hown9.out (by have := hx1.size; simp at this; omega)) hx9
end

section
open Go.RowKit

/-- the bytes of a right token -/
def IsTok (ys : List Nat) : Prop := ∃ (p s : Nat) (xs : List Nat), p < 32 ∧ 1 ≤ s ∧ s ≤ 4611686018427387903 ∧ xs.length ≤ 255 ∧ (∀ x ∈ xs, x < 256) ∧ ys = tokB p xs s

theorem wordB_of (xs : List Nat) (k s : Nat) (hb : ∀ x ∈ xs, x < 256) (hl : xs.length = k) (h : numB xs = s) : wordB s k = xs := by
  have := wordB_numB xs hb 0
  rw [Nat.zero_mul, Nat.zero_add, hl, h] at this
  exact this
theorem tok_build (ys : List Nat) (p k s : Nat) (hb : ∀ x ∈ ys, x < 256) (hlen : ys.length = k + 16) (h0 : ys[0]? = some 83) (h1 : ys[1]? = some 71) (h2 : ys[2]? = some p) (h3 : ys[3]? = some k)
    (hs : numB ((ys.drop (4 + k)).take 8) = s) (hq : numB (ys.drop (4 + k + 8)) = upd 14695981039346656037 (ys.take (4 + k + 8)) % 4294967296) : ys = tokB p ((ys.drop 4).take k) s := by
  obtain ⟨r, rfl⟩ : ∃ r, ys = 83 :: 71 :: p :: k :: r := by
    match ys, hlen, h0, h1, h2, h3 with
    | a :: b :: c :: d :: r, _, h0, h1, h2, h3 =>
      simp at h0 h1 h2 h3
      subst h0 h1 h2 h3
      exact ⟨r, rfl⟩
    | [], hlen, _, _, _, _ => simp at hlen
    | [_], hlen, _, _, _, _ => simp at hlen
    | [_, _], hlen, _, _, _, _ => simp at hlen
    | [_, _, _], hlen, _, _, _, _ => simp at hlen
  have hlr : r.length = k + 12 := by simp at hlen; omega
  have e1 : (83 :: 71 :: p :: k :: r).drop (4 + k) = r.drop k := by
    rw [show 4 + k = k + 4 by omega]; rfl
  have e2 : (83 :: 71 :: p :: k :: r).drop (4 + k + 8) = r.drop (k + 8) := by
    rw [show 4 + k + 8 = (k + 8) + 4 by omega]; rfl
  have e3 : (83 :: 71 :: p :: k :: r).take (4 + k + 8) = 83 :: 71 :: p :: k :: r.take (k + 8) := by
    rw [show 4 + k + 8 = (k + 8) + 4 by omega]; rfl
  have e4 : (83 :: 71 :: p :: k :: r).drop 4 = r := rfl
  rw [e1] at hs
  rw [e2, e3] at hq
  rw [e4]
  have hbr : ∀ x ∈ r, x < 256 := fun x hx => hb x (by simp [hx])
  have hw8 : wordB s 8 = (r.drop k).take 8 := wordB_of _ 8 s (fun x hx => hbr x (List.mem_of_mem_drop (List.mem_of_mem_take hx))) (by rw [List.length_take, List.length_drop]; omega) hs
  have hkl : (r.take k).length = k := by rw [List.length_take]; omega
  have hbody : bodyT p (r.take k) s = 83 :: 71 :: p :: k :: r.take (k + 8) := by
    rw [bodyT, hkl, hw8, List.take_add]
  have hw4 : wordB (sumT (bodyT p (r.take k) s)) 4 = r.drop (k + 8) := by
    rw [hbody]
    exact wordB_of _ 4 _ (fun x hx => hbr x (List.mem_of_mem_drop hx)) (by rw [List.length_drop]; omega) hq
  rw [tokB, hw4, hbody]
  simp
theorem isTok_of (ys : List Nat) (p k s : Nat) (hb : ∀ x ∈ ys, x < 256) (hlen : ys.length = k + 16) (h0 : ys[0]? = some 83) (h1 : ys[1]? = some 71) (h2 : ys[2]? = some p) (h3 : ys[3]? = some k) (hp : p < 32) (hk : k < 256)
    (hs : numB ((ys.drop (4 + k)).take 8) = s) (hs1 : 1 ≤ s) (hs2 : s ≤ 4611686018427387903) (hq : numB (ys.drop (4 + k + 8)) = upd 14695981039346656037 (ys.take (4 + k + 8)) % 4294967296) : IsTok ys :=
  ⟨p, s, (ys.drop 4).take k, hp, hs1, hs2, by rw [List.length_take]; omega, fun x hx => hb x (List.mem_of_mem_drop (List.mem_of_mem_take hx)), tok_build ys p k s hb hlen h0 h1 h2 h3 hs hq⟩
theorem tokB_lt (p s : Nat) (xs : List Nat) (hp : p < 256) (hl : xs.length < 256) (hb : ∀ x ∈ xs, x < 256) : ∀ x ∈ tokB p xs s, x < 256 := fun x hx => by
  simp only [tokB, bodyT, List.mem_append, List.mem_cons] at hx
  rcases hx with (rfl | rfl | rfl | rfl | hx | hx) | hx
  · omega
  · omega
  · omega
  · omega
  · exact hb x hx
  · exact wordB_lt _ _ x hx
  · exact wordB_lt _ _ x hx
theorem numB_lt_of (xs : List Nat) (hb : ∀ x ∈ xs, x < 256) (hl : xs.length ≤ 8) : numB xs < 18446744073709551616 := by
  have := numB_lt xs hb
  refine Nat.lt_of_lt_of_le this ?_
  rw [show (18446744073709551616 : Nat) = 256 ^ 8 by rfl]
  exact Nat.pow_le_pow_right (by omega) hl
end

section
open Go.RowKit
theorem rd_newk (w : World) (cs : List Value) (e : TypeId) {k : Nat} (hk : w.heap.size = k) : Rd (w.alloc (.cells cs.toArray e)) (some ⟨k, 0, none⟩) cs := by
  subst hk
  exact rd_new w cs e
theorem own_madek (w : World) (cs : List Value) (e : TypeId) (size n : Nat) (hn : cs.length = n * size) (hm : n ≤ maxLen) {base k : Nat} (hk : w.heap.size = k) (hb : base ≤ k) :
    (w.alloc (.cells cs.toArray e)).ownsRow base e size (.slice (some ⟨k, 0, none⟩) n n) n cs := by
  subst hk
  exact own_made w cs e size n hn hm hb
theorem blk_newk (w : World) (o : Obj) {k : Nat} (hk : w.heap.size = k) : (w.alloc o).heap[k]? = some o := by
  subst hk
  exact heap_alloc_new w o
theorem slice_mid_any2 {P : Program} {t e : TypeId} (ht : P.underlying t = some (.slice e)) (hz : ∀ u : World, (sizeOf e).run P u = .ok 1 u) {A : Option Addr} {n c m d : Nat} (k h : Nat) {ki hi : Int} (hki : ki = (k : Int)) (hhi : hi = (h : Int)) (hhn : h ≤ n) (hnc : n ≤ c) (hm : h = m + k) (hd : c = d + k) :
    ∃ A' : Option Addr, (∀ u : World, (Instr.slice t (.slice A n c) (some (.int .i64 ki)) (some (.int .i64 hi)) none).run P u = .ok (.slice A' m d) u) ∧
      (∀ (w : World) (vs : List Value), vs.length = n → Rd w A vs → Rd w A' ((vs.drop k).take m)) := by
  subst hki hhi
  have he : P.elem t = e := by simp [Program.elem, ht]
  refine ⟨if c = k then A else A.map (·.add k), fun u => ?_, fun w vs hl hr hne => ?_⟩
  · rw [run_slice_lh (P := P) u t A n c (by rw [he]; exact ht) .i64 .i64 (k : Int) (h : Int) (by omega) (by omega) (by omega), he, hz]
    simp only [Result.andThen, sliced, Int.toNat_natCast, Nat.mul_one]
    congr 2 <;> omega
  · have hvn : vs ≠ [] := by rintro rfl; simp at hne
    obtain ⟨b, off, rfl, hc⟩ := hr hvn
    have hck : ¬ c = k := by
      intro h
      apply hne
      rw [List.drop_of_length_le (by omega)]
      simp
    rw [if_neg hck]
    refine ⟨b, off + k, by simp [Addr.add_lit], fun j u hu => ?_⟩
    rw [Nat.add_assoc]
    refine hc (k + j) u ?_
    rw [List.getElem?_take] at hu
    split at hu
    · rw [← hu, List.getElem?_drop]
    · cases hu
end

section
open Go.RowKit
theorem blk_cell {w : World} {g : Nat} {t : TypeId} {cs : Array Value} (h : w.heap[g]? = some (.cells cs t (0, 0))) (i : Nat) : w.cell? ⟨g, i, none⟩ = cs[i]? := cell_of_row w g i cs t (0, 0) h
theorem blk_frozen {w : World} {g : Nat} {t : TypeId} {cs : Array Value} (h : w.heap[g]? = some (.cells cs t (0, 0))) (i : Nat) : w.frozen? ⟨g, i, none⟩ = false := frozen_of_row w g i cs t h
theorem blk_lt {w : World} {g : Nat} {o : Obj} (h : w.heap[g]? = some o) : g < w.heap.size := (Array.getElem?_eq_some_iff.1 h).1
theorem blk_set {w : World} {g : Nat} {t : TypeId} {cs : Array Value} (h : w.heap[g]? = some (.cells cs t (0, 0))) (i : Nat) (u : Value) : (w.setCell ⟨g, i, none⟩ u).heap[g]? = some (.cells (cs.setIfInBounds i u) t (0, 0)) := heap_setCell_same w g i cs t u h
theorem cell_past {w : World} {p : Addr} {v : Value} (h : w.cell? p = some v) (o : Obj) : (w.alloc o).cell? p = some v := (World.cell?_alloc_lt w o p (World.block_lt_of_cell? w p h)).trans h
theorem frozen_past {w : World} {p : Addr} (hlt : p.block < w.heap.size) (h : w.frozen? p = false) (o : Obj) : (w.alloc o).frozen? p = false := (World.frozen?_alloc_old w o p (Nat.ne_of_lt hlt)).trans h
theorem blk_past {w : World} {g : Nat} {o : Obj} (h : w.heap[g]? = some o) (o' : Obj) : (w.alloc o').heap[g]? = some o := (Below.heap_alloc w o' g (blk_lt h)).trans h
theorem blk_new (w : World) (o : Obj) : (w.alloc o).heap[w.heap.size]? = some o := heap_alloc_new w o
theorem grown_set (w : World) (g i : Nat) (u : Value) : w.grownBy (w.setCell ⟨g, i, none⟩ u) (some g) :=
  ⟨rfl, rfl, rfl, by simp, fun k _ hk => heap_setCell_other w ⟨g, i, none⟩ k u (fun e => hk (by simp [e]))⟩
theorem grown_alloc {w a : World} {row : Option Nat} (h : w.grownBy a row) (o : Obj) : w.grownBy (a.alloc o) row := World.grown_trans h (World.grownBy_alloc a o row)
theorem grown_setCell {w a : World} {g : Nat} (h : w.grownBy a (some g)) (i : Nat) (u : Value) : w.grownBy (a.setCell ⟨g, i, none⟩ u) (some g) := World.grown_trans h (grown_set a g i u)
theorem grown_ext {w a b : World} {row : Option Nat} (h : w.grownBy a row) (k : Ext a b) : w.grownBy b row :=
  ⟨k.os.trans h.os, k.tape.trans h.tape, k.output.trans h.output, Nat.le_trans h.size k.size, fun i hi hne => (k.block i (Nat.lt_of_lt_of_le hi h.size)).trans (h.block i hi hne)⟩
theorem blk_ext {w a : World} {g : Nat} {o : Obj} (h : w.heap[g]? = some o) (k : Ext w a) : a.heap[g]? = some o := (k.block g (blk_lt h)).trans h
theorem grown_none {a b : World} (h : Ext a b) (row : Option Nat) : a.grownBy b row := ⟨h.os, h.tape, h.output, h.size, fun i hi _ => h.block i hi⟩
theorem blk_grown {w w' : World} {g r : Nat} {o : Obj} (h : w.heap[g]? = some o) (hg : w.grownBy w' (some r)) (hne : g ≠ r) : w'.heap[g]? = some o :=
  (hg.block g (blk_lt h) (fun e => hne (by injection e))).trans h
theorem fz_past {w : World} {g : Nat} {t : TypeId} {cs : Array Value} (h : w.heap[g]? = some (.cells cs t (0, 0))) (i : Nat) (o : Obj) : (w.alloc o).frozen? ⟨g, i, none⟩ = false := frozen_past (p := ⟨g, i, none⟩) (blk_lt h) (blk_frozen h i) o
theorem grown_drew {w a : World} {row : Option Nat} (h : w.grownBy a row) : w.grownBy a.drew row := ⟨h.os, h.tape, h.output, h.size, h.block⟩
theorem grown_undrew {w a : World} {row : Option Nat} (h : w.drew.grownBy a row) : w.grownBy a row := ⟨h.os, h.tape, h.output, h.size, h.block⟩
theorem grown_new {w a b : World} {row : Option Nat} (h : w.grownBy a row) {g : Nat} (hg : a.grownBy b (some g)) (hge : w.heap.size ≤ g) : w.grownBy b row :=
  ⟨hg.os.trans h.os, hg.tape.trans h.tape, hg.output.trans h.output, Nat.le_trans h.size hg.size, fun i hi hne => (hg.block i (Nat.lt_of_lt_of_le hi h.size) (fun e => by injection e with e; omega)).trans (h.block i hi hne)⟩
theorem own_ne {w : World} {B g n c : Nat} {e : TypeId} {A : Option Addr} {xs : List Value} (h : w.ownsRow B e 1 (.slice A n c) n xs) (hg : g < B) : (Value.slice A n c).ownBlock = none ∨ (Value.slice A n c).ownBlock ≠ some g := by
  cases hA : (Value.slice A n c).ownBlock with
  | none => exact .inl rfl
  | some q => exact .inr fun e => by injection e with e; have := own_ge h q hA; omega
theorem drew_cell {w : World} {p : Addr} {v : Value} (h : w.cell? p = some v) : w.drew.cell? p = some v := h
theorem ext_cell {w w' : World} {p : Addr} {v : Value} (h : Ext w w') (hc : w.cell? p = some v) : w'.cell? p = some v := (h.cell (World.block_lt_of_cell? w p hc)).trans hc
theorem ext_back {a b c : World} (h2 : Ext b c) (h1 : Ext a b) : Ext a c := h1.trans h2
theorem ext_grown {w W w2 : World} {g : Nat} (h : Ext w W) (hG : W.grownBy w2 (some g)) (hg : w.heap.size ≤ g) : Ext w w2 := h.grown hG (fun k hk => by injection hk with hk; omega)
theorem results_row_tmp {P : Program} {fn : Func} {p u : Tmp} {ty : TypeId} (h : fn.results = #[.cell p ty, .tmp u]) (tmps : Array Value) (w : World) (g : Nat) (t : TypeId) (cs : Array Value) (fr : Nat × Nat) (d : TypeDesc)
    (hp : tmps.getD p undef = .pointer (some ⟨g, 0, none⟩)) (hg : w.heap[g]? = some (.cells cs t fr))
    (hu : P.underlying ty = some d) (hd : (match d with | .struct _ | .array _ _ => true | _ => false) = true) (hi : (P.info? ty).map (·.size) = some cs.size) :
    (results fn tmps).run P w = .ok (.tuple #[.agg cs, tmps.getD u undef]) w := by
  rw [results_cell_tmp h, hp]
  simp [asAddr, run_loadVar_row w g t ty cs fr d hg hu hd hi, Result.andThen]
theorem grown2 (w : World) (g : Nat) (a b : Value) : w.grownBy ((w.setCell ⟨g, 0, none⟩ a).setCell ⟨g, 1, none⟩ b) (some g) := grown_setCell (grown_set w g 0 a) 1 b
theorem row2 {w : World} {g : Nat} {x y : Value} {t : TypeId} (h : w.heap[g]? = some (.cells #[x, y] t (0, 0))) (a b : Value) : ((w.setCell ⟨g, 0, none⟩ a).setCell ⟨g, 1, none⟩ b).heap[g]? = some (.cells #[a, b] t (0, 0)) := blk_set (blk_set h 0 a) 1 b
theorem ext_row2 {w w2 : World} {g : Nat} (h : Ext w w2) (hg : w.heap.size ≤ g) (a b : Value) : Ext w ((w2.setCell ⟨g, 0, none⟩ a).setCell ⟨g, 1, none⟩ b) := ext_grown h (grown2 w2 g a b) hg
theorem own_row2 {w : World} {B g n c : Nat} {e : TypeId} {A : Option Addr} {xs : List Value} (h : w.ownsRow B e 1 (.slice A n c) n xs) (hg : g < B) (x y : Value) : ((w.setCell ⟨g, 0, none⟩ x).setCell ⟨g, 1, none⟩ y).ownsRow g e 1 (.slice A n c) n xs :=
  own_base (h.kept (grown2 w g x y) (own_ne h hg)) (Nat.le_of_lt hg)
theorem cell_other {w : World} {p : Addr} {v : Value} {g i : Nat} {u : Value} (h : w.cell? p = some v) (hne : p.block ≠ g) : (w.setCell ⟨g, i, none⟩ u).cell? p = some v := (World.cell?_setCell_other _ _ _ _ (fun e => hne (by rw [← e]))).trans h
theorem own_not {w : World} {B n c vb : Nat} {e : TypeId} {A : Option Addr} {xs : List Value} (h : w.ownsRow B e 1 (.slice A n c) n xs) (hv : vb < B ∨ w.heap.size ≤ vb) : (Value.slice A n c).ownBlock ≠ some vb := fun e => by
  have := h.lt vb e
  omega
theorem row3 {w : World} {g : Nat} {x y z : Value} {t : TypeId} (h : w.heap[g]? = some (.cells #[x, y, z] t (0, 0))) (a b c : Value) : (((w.setCell ⟨g, 0, none⟩ a).setCell ⟨g, 1, none⟩ b).setCell ⟨g, 2, none⟩ c).heap[g]? = some (.cells #[a, b, c] t (0, 0)) := blk_set (blk_set (blk_set h 0 a) 1 b) 2 c
theorem row4 {w : World} {g : Nat} {x y z v : Value} {t : TypeId} (h : w.heap[g]? = some (.cells #[x, y, z, v] t (0, 0))) (a b c d : Value) : ((((w.setCell ⟨g, 0, none⟩ a).setCell ⟨g, 1, none⟩ b).setCell ⟨g, 2, none⟩ c).setCell ⟨g, 3, none⟩ d).heap[g]? = some (.cells #[a, b, c, d] t (0, 0)) := blk_set (blk_set (blk_set (blk_set h 0 a) 1 b) 2 c) 3 d
end

section
open Go.RowKit

/-- nothing that was there has turned, but for the blocks of S -/
structure GB (w w' : World) (S : Nat → Prop) : Prop where
  os : w'.os = w.os
  tape : w'.tape = w.tape
  output : w'.output = w.output
  size : w.heap.size ≤ w'.heap.size
  block : ∀ i, i < w.heap.size → ¬ S i → w'.heap[i]? = w.heap[i]?
theorem GB.of_ext {w w' : World} (S : Nat → Prop) (h : Ext w w') : GB w w' S := ⟨h.os, h.tape, h.output, h.size, fun i hi _ => h.block i hi⟩
theorem GB.refl (w : World) (S : Nat → Prop) : GB w w S := GB.of_ext S (Ext.refl w)
theorem GB.grown {w a b : World} {S : Nat → Prop} {row : Option Nat} (h : GB w a S) (k : a.grownBy b row) (hr : ∀ q, row = some q → S q ∨ w.heap.size ≤ q) : GB w b S :=
  ⟨k.os.trans h.os, k.tape.trans h.tape, k.output.trans h.output, Nat.le_trans h.size k.size, fun i hi hs => (k.block i (Nat.lt_of_lt_of_le hi h.size) (fun e => by
    rcases hr i e.symm with h' | h'
    · exact hs h'
    · omega)).trans (h.block i hi hs)⟩
theorem GB.ext {w a b : World} {S : Nat → Prop} (h : GB w a S) (k : Ext a b) : GB w b S := h.grown (row := none) (grown_none k none) (fun q e => by cases e)
theorem GB.alloc {w a : World} {S : Nat → Prop} (h : GB w a S) (o : Obj) : GB w (a.alloc o) S := h.ext ((Ext.refl a).alloc o)
theorem GB.drew {w a : World} {S : Nat → Prop} (h : GB w a S) : GB w a.drew S := h.ext (Ext.refl a).drew
theorem GB.set {w a : World} {S : Nat → Prop} (h : GB w a S) (g i : Nat) (u : Value) (hg : S g ∨ w.heap.size ≤ g) : GB w (a.setCell ⟨g, i, none⟩ u) S := h.grown (grown_set a g i u) (fun q e => by injection e with e; subst e; exact hg)
theorem GB.trans {w a b : World} {S S' : Nat → Prop} (h : GB w a S) (k : GB a b S') (hs : ∀ i, S' i → S i ∨ w.heap.size ≤ i) : GB w b S :=
  ⟨k.os.trans h.os, k.tape.trans h.tape, k.output.trans h.output, Nat.le_trans h.size k.size, fun i hi hn => (k.block i (Nat.lt_of_lt_of_le hi h.size) (fun e => by
    rcases hs i e with h' | h'
    · exact hn h'
    · omega)).trans (h.block i hi hn)⟩
theorem GB.back {w a b : World} {S : Nat → Prop} (h : Ext w a) (k : GB a b S) : GB w b S := ⟨k.os.trans h.os, k.tape.trans h.tape, k.output.trans h.output, Nat.le_trans h.size k.size, fun i hi hn => (k.block i (Nat.lt_of_lt_of_le hi h.size) hn).trans (h.block i hi)⟩
theorem GB.more {w a : World} {S S' : Nat → Prop} (h : GB w a S) (hs : ∀ i, i < w.heap.size → S i → S' i) : GB w a S' := ⟨h.os, h.tape, h.output, h.size, fun i hi hn => h.block i hi (fun e => hn (hs i hi e))⟩
theorem GB.cell {w a : World} {S : Nat → Prop} (h : GB w a S) {p : Addr} {v : Value} (hc : w.cell? p = some v) (hp : ¬ S p.block) : a.cell? p = some v :=
  (World.cell?_of_block (h.block p.block (World.block_lt_of_cell? w p hc) hp)).trans hc
theorem GB.blk {w a : World} {S : Nat → Prop} (h : GB w a S) {g : Nat} {o : Obj} (hc : w.heap[g]? = some o) (hp : ¬ S g) : a.heap[g]? = some o := (h.block g (blk_lt hc) hp).trans hc
theorem GB.to_ext {w0 w a : World} {S : Nat → Prop} (h : GB w a S) (k : Ext w0 w) (hs : ∀ i, S i → w0.heap.size ≤ i) : Ext w0 a :=
  ⟨h.os.trans k.os, h.tape.trans k.tape, h.output.trans k.output, Nat.le_trans k.size h.size, fun i hi => (h.block i (Nat.lt_of_lt_of_le hi k.size) (fun e => by have := hs i e; omega)).trans (k.block i hi)⟩
theorem GB.rd {w a : World} {S : Nat → Prop} {A : Option Addr} {vs : List Value} (h : GB w a S) (hr : Rd w A vs) (hs : ∀ p, A = some p → ¬ S p.block) : Rd a A vs := fun hne => by
  obtain ⟨b, off, hA, hc⟩ := hr hne
  exact ⟨b, off, hA, fun j u hu => h.cell (hc j u hu) (show ¬ S b from hs _ hA)⟩
theorem GB.own {w a : World} {S : Nat → Prop} {base : Nat} {e : TypeId} {size : Nat} {v : Value} {n : Nat} {xs : List Value} (k : GB w a S) (h : w.ownsRow base e size v n xs) (hs : ∀ q, v.ownBlock = some q → ¬ S q) : a.ownsRow base e size v n xs := by
  refine ⟨h.1, ?_⟩
  rcases h.2 with hn | ⟨g, cap, cur, rfl, hbg, hgg, rest⟩
  · exact .inl hn
  · exact .inr ⟨g, cap, cur, rfl, hbg, by rw [k.block g (Array.getElem?_eq_some_iff.1 hgg).1 (hs g rfl)]; exact hgg, rest⟩
/-- a cut from k on, wherever it stands, of elements of so many cells -/
theorem slice_from_s {P : Program} {t e : TypeId} {s : Nat} (ht : P.underlying t = some (.slice e)) (hz : ∀ u : World, (sizeOf e).run P u = .ok s u) {A : Option Addr} {n c m d : Nat} (k : Nat) {ki : Int} (hki : ki = (k : Int)) (hnc : n ≤ c) (hm : n = m + k) (hd : c = d + k) :
    ∃ A' : Option Addr, (∀ u : World, (Instr.slice t (.slice A n c) (some (.int .i64 ki)) none none).run P u = .ok (.slice A' m d) u) ∧
      (∀ (w : World) (vs : List Value), vs.length = n * s → Rd w A vs → Rd w A' (vs.drop (k * s))) ∧ (∀ a, A' = some a → ∃ a', A = some a' ∧ a'.block = a.block) ∧ (A = none → A' = none) := by
  subst hki
  have he : P.elem t = e := by simp [Program.elem, ht]
  refine ⟨if c = k then A else A.map (·.add (k * s)), fun u => ?_, fun w vs hl hr hne => ?_, fun a ha => ?_, fun ha => by subst ha; split <;> rfl⟩
  · rw [run_slice_l (P := P) u t A n c (by rw [he]; exact ht) .i64 (k : Int) (by omega) (by omega), he, hz]
    simp only [Result.andThen, sliced, Int.toNat_natCast]
    congr 2 <;> omega
  · have hvn : vs ≠ [] := by rintro rfl; simp at hne
    obtain ⟨b, off, rfl, hc⟩ := hr hvn
    have hck : ¬ c = k := by
      intro h
      apply hne
      have : m = 0 := by omega
      rw [List.drop_of_length_le (by rw [hl, hm, this, Nat.zero_add]; exact Nat.le_refl _)]
    rw [if_neg hck]
    exact ⟨b, off + k * s, by simp [Addr.add_lit], fun j u hu => by rw [Nat.add_assoc]; exact hc (k * s + j) u (by rw [← hu, List.getElem?_drop])⟩
  · split at ha
    · exact ⟨a, ha, rfl⟩
    · cases hA : A with
      | none => rw [hA] at ha; cases ha
      | some q =>
        rw [hA] at ha
        injection ha with ha
        refine ⟨q, rfl, ?_⟩
        rw [← ha]
        unfold Addr.add
        split <;> rfl
end

section
open Go.RowKit

/-- a reader in memory: the bytes that wait, whether it is closed; all its bytes lie below S -/
def IsRdr (w : World) (r : Nat) (ws : List Nat) (cl : Bool) (S : Nat → Prop) : Prop :=
  ∃ A n c, w.heap[r]? = some (.cells #[.slice A n c, .bool cl] 103 (0, 0)) ∧ ws.length = n ∧ n ≤ c ∧ Rd w A (vals .u8 ws) ∧ ∀ a, A = some a → S a.block

theorem wp_hideQ {P : Program} {c : Code} {Q : Exit → Act → World → Prop} {a : Act} {w : World}
    (h : ∀ Q' : Exit → Act → World → Prop, (∀ e a w, Q e a w → Q' e a w) → c.wp P Q' a w) : c.wp P Q a w := h Q (fun _ _ _ q => q)
set_option maxHeartbeats 1000000 in
theorem take_few (w : World) (r k : Nat) (A : Option Addr) (n c : Nat) (cl : Bool) (h : w.heap[r]? = some (.cells #[.slice A n c, .bool cl] 103 (0, 0))) (hk : n < k) :
    Calls Try.prog 97 #[.pointer (some ⟨r, 0, none⟩), .int .i64 (k : Int)] w fun e w' => e = .panicked [{ v := .iface 143 (.agg #[]), recovered := false }] ∧ w = w' := by
  have h0 : w.cell? ⟨r, 0, none⟩ = some (.slice A n c) := blk_cell h 0
  have H := Lib.hid h; clear h
  go_enter Try.func97, Try.ntmps97
  go_wp2
  exact ⟨rfl, rfl, rfl⟩

set_option maxHeartbeats 1000000 in
theorem take_some (w : World) (r k : Nat) (A A' : Option Addr) (n c m d : Nat) (cl : Bool) (h : w.heap[r]? = some (.cells #[.slice A n c, .bool cl] 103 (0, 0))) (hk : k ≤ n) (hnc : n ≤ c)
    (hsl : ∀ u : World, (Instr.slice 28 (.slice A n c) (some (.int .i64 (k : Int))) none none).run Try.prog u = .ok (.slice A' m d) u) :
    Calls Try.prog 97 #[.pointer (some ⟨r, 0, none⟩), .int .i64 (k : Int)] w fun e w' => e = .returned (.slice A k c) ∧ w.setCell ⟨r, 0, none⟩ (.slice A' m d) = w' := by
  have h0 : w.cell? ⟨r, 0, none⟩ = some (.slice A n c) := blk_cell h 0
  have hf := blk_frozen h 0
  have H := Lib.hid h; clear h
  go_enter Try.func97, Try.ntmps97
  go_wp2
  go_ret
  exact ⟨rfl, rfl⟩


set_option maxRecDepth 100000 in
theorem undo_panicking (w : World) (r br bw : Nat) (A B : Option Addr) (n c m d : Nat) (cl : Bool) (older : List PanicEntry)
    (hr : w.heap[r]? = some (.cells #[.slice A n c, .bool cl] 103 (0, 0))) (h1 : w.cell? ⟨br, 0, none⟩ = some (.pointer (some ⟨r, 0, none⟩))) (h2 : w.cell? ⟨bw, 0, none⟩ = some (.slice B m d)) :
    CallsD Try.prog 96 #[.pointer (some ⟨bw, 0, none⟩), .pointer (some ⟨br, 0, none⟩)] (.panicking ({ v := .iface 143 (.agg #[]), recovered := false } :: older)) w fun e u' w' =>
      e = .returned (.tuple #[]) ∧ u' = .panicking ({ v := .iface 143 (.agg #[]), recovered := true } :: older) ∧ (w.alloc (.cells #[] 143)).setCell ⟨r, 0, none⟩ (.slice B m d) = w' := by
  refine callsD_of_wpS Try.func96 rfl fun c₀ cs hu => ?_
  have hc0 : w.cell? ⟨r, 0, none⟩ = some (.slice A n c) := blk_cell hr 0
  have hf0 := blk_frozen hr 0
  have hta : ∀ u : World, (Instr.typeAssert (.iface 143 (.agg #[])) 20 143 true).run Try.prog u = .ok (.tuple #[.agg #[], .bool true]) u := fun _ => by kernel_rfl
  have p1 := cell_past h1; have p2 := cell_past h2; have p3 := cell_past hc0; have p4 := frozen_past (p := ⟨r, 0, none⟩) (blk_lt hr) hf0
  have Hr := Lib.hid hr; clear hr
  simp only [Try.ntmps96, List.size_toArray, List.length_cons, List.length_nil, Nat.reduceAdd, Nat.reduceSub, Array.replicate_succ, Array.replicate_zero, List.push_toArray, List.append_toArray, List.nil_append, List.cons_append]
  apply wpS_seq
  apply wpS_region
  simp [wpOpsS, go_sem, recoverD, hu, Exit.thenS]
  refine wpS_of_wp ?_
  refine wp_hideQ fun Q hQ => ?_
  have Hu := Lib.hid hu; clear hu
  go_wp2_with fail
  have hu := Hu.out
  exact ⟨rfl, _, rfl, _, results_none rfl _ _ _, rfl, rfl, rfl⟩
theorem undo_idle (w : World) (p q : Value) :
    CallsD Try.prog 96 #[p, q] .returning w fun e u' w' => e = .returned (.tuple #[]) ∧ u' = .returning ∧ w = w' := by
  refine callsD_of_wpS Try.func96 rfl fun c₀ cs hu => ?_
  simp only [Try.ntmps96, List.size_toArray, List.length_cons, List.length_nil, Nat.reduceAdd, Nat.reduceSub, Array.replicate_succ, Array.replicate_zero, List.push_toArray, List.append_toArray, List.nil_append, List.cons_append]
  apply wpS_seq
  apply wpS_region
  simp [wpOpsS, go_sem, recoverD, hu, Exit.thenS]
  refine wpS_of_wp ?_
  refine wp_hideQ fun Q hQ => ?_
  have Hu := Lib.hid hu; clear hu
  go_wp2_with fail
  have hu := Hu.out
  exact ⟨rfl, .returning, by cases c₀; simp at hu; subst hu; rfl, _, results_none rfl _ _ _, rfl, rfl, rfl⟩
end

section
open Go.RowKit

theorem own_head4b (w : World) (o : Obj) (p n : Nat) : ((w.alloc o).alloc (.cells #[.int .u8 83, .int .u8 71, .int .u8 (p : Int), .int .u8 (n : Int)] 5)).ownsRow w.heap.size 5 1 (.slice (some ⟨w.heap.size + 1, 0, none⟩) 4 4) 4 (vals .u8 [83, 71, p, n]) := by
  have h := own_head4 (w.alloc o) p n
  rw [World.size_alloc] at h
  exact own_base h (by omega)
set_option maxHeartbeats 2000000 in
theorem refTok_any (w : World) (p s : Nat) (A : Option Addr) (n c : Nat) (xs : List Nat) (hl : xs.length = n) (hb : ∀ x ∈ xs, x < 256) (hr : Rd w A (vals .u8 xs)) (h1 : 1 ≤ s) (h2 : s ≤ 4611686018427387903) (h4 : p < 32) (hn : n ≤ 255) :
    Calls Try.prog 68 #[tokV (p : Int) A n c (s : Int)] w (RetB (tokB p xs s) w) := by
  have Hl := Lib.hid hl; have Hr := Lib.hid hr; have Hb := Lib.hid hb; clear hl hr hb
  have hbl : (bodyT p xs s).length = 4 + n + 8 := by rw [bodyT_len, Hl.out]; omega
  have hbb : ∀ x ∈ bodyT p xs s, x < 256 := fun x hx => by
    simp only [bodyT, List.mem_cons, List.mem_append] at hx
    rcases hx with rfl | rfl | rfl | rfl | hx | hx
    · omega
    · omega
    · omega
    · have := Hl.out; omega
    · exact Hb.out x hx
    · exact wordB_lt _ _ x hx
  have Hbl := Lib.hid hbl; have Hbb := Lib.hid hbb; clear hbl hbb
  have hwn : IntKind.u8.wrap (n : Int) = (n : Int) := by rw [IntKind.wrap_u8]; omega
  have hwp : IntKind.u8.wrap (p : Int) = (p : Int) := by rw [IntKind.wrap_u8]; omega
  go_enter Try.func68, Try.ntmps68
  go_wp2_with (first | (at_builtin; refine app_u8 _ rfl (.tmp 12) (.tmp 14) rfl w.heap.size rfl (own_head4b w _ p n) rfl Hl.out ((Hr.out.alloc _).alloc _) (by omega) (by simp; omega) ?_; intro A6 c6 w6 hown6 hgrow6 _; have hk2 : w6.cell? ⟨w.heap.size, 2, none⟩ = some (.int .i64 (s : Int)) := (hgrow6.cell_far ⟨w.heap.size, 2, none⟩ (by simp; omega) (by simp [Value.ownBlock])).trans (cell_past (World.cell?_alloc_new _ _ _ _) _)) | fail)
  have hx6 : Ext w w6 := (((Ext.refl w).alloc _).alloc _).grown hgrow6 (fun k hk => by simp [Value.ownBlock] at hk; omega)
  have Hown6 := Lib.hid hown6; clear hown6 hgrow6 hk2
  have hs6 : w.heap.size ≤ w6.heap.size := hx6.size
  go_wp2_with fail
  refine (docWord_any w6 s 8 (by omega) (by omega)).mono ?_
  rintro e w7 ⟨A7, c7, rfl, hown7, hy7⟩
  rw [wordB_len] at hown7 ⊢
  have hr7 := Lib.hid (Rd.of_own hown7)
  have ho6 := own_ext Hown6.out hy7
  have hs7 : w6.heap.size ≤ w7.heap.size := hy7.size
  clear hown7 Hown6
  go_wp2_with (first | (at_builtin; refine app_u8 _ rfl (.tmp 16) (.tmp 20) rfl w.heap.size rfl ho6 rfl (wordB_len s 8) hr7.out (by omega) (by omega) ?_; intro A8 c8 w8 hown8 hgrow8 _) | fail)
  have hbody : [83, 71, p, n] ++ xs ++ wordB s 8 = bodyT p xs s := by rw [bodyT, Hl.out]; rfl
  rw [hbody] at hown8
  have hx8 : Ext w w8 := (hx6.trans hy7).grown hgrow8 (own_ge ho6)
  have hr8 := Lib.hid (Rd.of_own hown8)
  have hs8 : w7.heap.size ≤ w8.heap.size := hgrow8.size
  have Hown8 := Lib.hid hown8; clear hown8 hgrow8 ho6 hbody
  go_wp2_with fail
  refine (refSum_any A8 (4 + n + 8) c8 (bodyT p xs s) w8 Hbl.out Hbb.out (by omega) hr8.out).mono ?_
  rintro e w9 ⟨rfl, rfl⟩
  have hsum : ((upd 14695981039346656037 (bodyT p xs s) : Nat) : Int) % 4294967296 = ((sumT (bodyT p xs s) : Nat) : Int) := rfl
  have hslt : sumT (bodyT p xs s) < 4294967296 := Nat.mod_lt _ (by omega)
  go_wp2_with fail
  rw [hsum]
  refine (docWord_any w8 (sumT (bodyT p xs s)) 4 (by omega) (by omega)).mono ?_
  rintro e w10 ⟨A10, c10, rfl, hown10, hy10⟩
  rw [wordB_len] at hown10 ⊢
  have hr10 := Lib.hid (Rd.of_own hown10)
  have ho8 := own_ext Hown8.out hy10
  have hs10 : w8.heap.size ≤ w10.heap.size := hy10.size
  clear hown10 Hown8
  go_wp2_with (first | (at_builtin; refine app_u8 _ rfl (.tmp 22) (.tmp 26) rfl w.heap.size rfl ho8 rfl (wordB_len _ 4) hr10.out (by omega) (by omega) ?_; intro A11 c11 w11 hown11 hgrow11 _) | fail)
  have hx11 : Ext w w11 := (hx8.trans hy10).grown hgrow11 (own_ge ho8)
  have Hown11 := Lib.hid hown11
  have hlt : (tokB p xs s).length = 4 + n + 8 + 4 := by rw [tokB_len, Hl.out]; omega
  have Hlt := Lib.hid hlt; clear hlt hown11 hgrow11 ho8
  go_ret
  exact retB_of Hlt.out Hown11.out hx11

theorem refDocEnc_ok (w : World) (p s : Nat) (A : Option Addr) (n c : Nat) (xs : List Nat) (hl : xs.length = n) (hb : ∀ x ∈ xs, x < 256) (hr : Rd w A (vals .u8 xs)) (h1 : 1 ≤ s) (h2 : s ≤ 4611686018427387903) (h4 : p < 32) (hn : n ≤ 255) :
    Calls Try.prog 31 #[tokV (p : Int) A n c (s : Int)] w (RetBE (tokB p xs s) 0 w) := by
  have C := Lib.hid (fun w1 hr' => refTok_any w1 p s A n c xs hl hb hr' h1 h2 h4 hn)
  have Hr := Lib.hid hr; clear hl hr hb
  go_enter Try.func31, Try.ntmps31
  go_wp2_with fail
  refine (C.out _ (Hr.out.alloc _)).mono ?_
  rintro e w1 ⟨A1, c1, rfl, hown1, hy1⟩
  have Hown1 := Lib.hid hown1; clear hown1
  go_wp2_with fail
  go_ret2
  have hx : Ext w w1 := ((Ext.refl w).alloc _).trans hy1
  exact ⟨A1, c1, rfl, own_base Hown1.out (by simp), hx⟩
theorem refDocEnc_arg (w : World) (p s : Int) (A : Option Addr) (n c : Nat) (h : s < 1 ∨ 4611686018427387903 < s ∨ p < 0 ∨ 32 ≤ p) :
    Calls Try.prog 31 #[tokV p A n c s] w (RetE (.tuple #[.slice none 0 0, .int .i64 1]) w) := by
  by_cases hp : p < 0
  · go_enter Try.func31, Try.ntmps31
    go_wp2_with fail
    go_ret2
    exact ⟨rfl, (Ext.refl w).alloc _⟩
  · by_cases hp' : 32 ≤ p
    · go_enter Try.func31, Try.ntmps31
      go_wp2_with fail
      go_ret2
      exact ⟨rfl, (Ext.refl w).alloc _⟩
    · by_cases hs : s < 1
      · go_enter Try.func31, Try.ntmps31
        go_wp2_with fail
        go_ret2
        exact ⟨rfl, (Ext.refl w).alloc _⟩
      · have hs' : 4611686018427387903 < s := by omega
        go_enter Try.func31, Try.ntmps31
        go_wp2_with fail
        go_ret2
        exact ⟨rfl, (Ext.refl w).alloc _⟩
theorem refDocEnc_long (w : World) (p s : Int) (A : Option Addr) (n c : Nat) (h1 : 1 ≤ s) (h2 : s ≤ 4611686018427387903) (h3 : 0 ≤ p) (h4 : p < 32) (hn : 255 < n) :
    Calls Try.prog 31 #[tokV p A n c s] w (RetE (.tuple #[.slice none 0 0, .int .i64 2]) w) := by
  go_enter Try.func31, Try.ntmps31
  go_wp2_with fail
  go_ret2
  exact ⟨rfl, (Ext.refl w).alloc _⟩
end

section
open Go.RowKit

abbrev tokZ : Value := tokV 0 none 0 0 0

/-- the return of Decode and of DocDecode: a token's cell and a number -/
theorem ret_tok {fn : Func} (h : fn.results = #[.cell 2 53, .tmp 3]) {tmps : Array Value} {w : World} {g : Nat} {a b c : Value} {t : TypeId} {fr : Nat × Nat} (hp : tmps.getD 2 undef = .pointer (some ⟨g, 0, none⟩)) (hg : w.heap[g]? = some (.cells #[a, b, c] t fr)) :
    (results fn tmps).run Try.prog w = .ok (.tuple #[.agg #[a, b, c], tmps.getD 3 undef]) w :=
  results_row_tmp h tmps w g t #[a, b, c] fr _ hp hg Try.underlying53 (by rfl) (by kernel_rfl)

theorem decode_long (w : World) (A : Option Addr) (n c : Nat) (hn : 4096 < n) :
    Calls Try.prog 32 #[.slice A n c] w (RetE (.tuple #[tokZ, .int .i64 2]) w) := by
  go_enter Try.func32, Try.ntmps32
  go_wp2_with fail
  refine bodyPost_ret (ret_tok rfl rfl (heap_alloc_new w _)) rfl ?_
  exact ⟨rfl, (Ext.refl w).alloc _⟩
theorem refDecode_long (w : World) (A : Option Addr) (n c : Nat) (hn : 4096 < n) :
    Calls Try.prog 34 #[.slice A n c] w (RetE (.tuple #[tokZ, .int .i64 2]) w) := by
  go_enter Try.func34, Try.ntmps34
  go_wp2_with fail
  refine bodyPost_ret (ret_tok rfl rfl (heap_alloc_new w _)) rfl ?_
  exact ⟨rfl, (Ext.refl w).alloc _⟩

/-- what Decode and DocDecode leave of a right token's bytes -/
def RetTok (p : Nat) (xs : List Nat) (s : Nat) (w : World) (e : Ending) (w' : World) : Prop :=
  ∃ A c, e = .returned (.tuple #[tokV (p : Int) A xs.length c (s : Int), .int .i64 0]) ∧ w'.ownsRow w.heap.size 5 1 (.slice A xs.length c) xs.length (vals .u8 xs) ∧ Ext w w'

theorem tok_num (p : Nat) (xs : List Nat) (s : Nat) : (((tokB p xs s).drop (xs.length + 4)).take 8) = wordB s 8 := by
  have e : tokB p xs s = ([83, 71, p, xs.length] ++ xs) ++ (wordB s 8 ++ wordB (sumT (bodyT p xs s)) 4) := by simp [tokB, bodyT]
  rw [e, List.drop_append_of_le_length (by simp), List.drop_of_length_le (by simp), List.nil_append, List.take_append_of_le_length (by rw [wordB_len]; omega), List.take_of_length_le (by rw [wordB_len]; omega)]
theorem tok_sum (p : Nat) (xs : List Nat) (s : Nat) : (tokB p xs s).drop (xs.length + 12) = wordB (sumT (bodyT p xs s)) 4 := by
  rw [tokB, List.drop_append_of_le_length (by rw [bodyT_len]; omega), List.drop_of_length_le (by rw [bodyT_len]; omega), List.nil_append]
theorem tok_body (p : Nat) (xs : List Nat) (s : Nat) : (tokB p xs s).take (xs.length + 12) = bodyT p xs s := by
  rw [tokB, List.take_append_of_le_length (by rw [bodyT_len]; omega), List.take_of_length_le (by rw [bodyT_len]; omega)]
theorem tok_key (p : Nat) (xs : List Nat) (s : Nat) : (((tokB p xs s).drop 4).take xs.length) = xs := by
  have e : tokB p xs s = [83, 71, p, xs.length] ++ (xs ++ (wordB s 8 ++ wordB (sumT (bodyT p xs s)) 4)) := by simp [tokB, bodyT]
  rw [e, List.drop_append_of_le_length (by simp), List.drop_of_length_le (by simp), List.nil_append, List.take_append_of_le_length (by omega), List.take_of_length_le (by omega)]

theorem slice_mid {P : Program} {t e : TypeId} (ht : P.underlying t = some (.slice e)) (hz : ∀ u : World, (sizeOf e).run P u = .ok 1 u) {b off n c m d : Nat} (k h : Nat) {ki hi : Int} (hki : ki = (k : Int)) (hhi : hi = (h : Int)) (hhn : h ≤ n) (hnc : n ≤ c) (h2 : ¬ c = k) (hm : h = m + k) (hd : c = d + k) (u : World) :
    (Instr.slice t (.slice (some ⟨b, off, none⟩) n c) (some (.int .i64 ki)) (some (.int .i64 hi)) none).run P u = .ok (.slice (some ⟨b, off + k, none⟩) m d) u := by
  subst hki hhi
  have he : P.elem t = e := by simp [Program.elem, ht]
  rw [run_slice_lh (P := P) u t _ n c (by rw [he]; exact ht) .i64 .i64 (k : Int) (h : Int) (by omega) (by omega) (by omega), he, hz]
  simp only [Result.andThen, sliced, Int.toNat_natCast, if_neg h2, Option.map_some, Addr.add_lit, Nat.mul_one]
  congr 2 <;> omega
theorem rd_off {w : World} {b off : Nat} {vs : List Value} (h : Rd w (some ⟨b, off, none⟩) vs) (j : Nat) : Rd w (some ⟨b, off + j, none⟩) (vs.drop j) := by
  intro hne
  obtain ⟨b', off', hA, hc⟩ := h (by rintro rfl; simp at hne)
  injection hA with hA; injection hA with e1 e2 _; subst e1 e2
  exact ⟨b, off + j, rfl, fun i u hu => by rw [Nat.add_assoc]; exact hc (j + i) u (by rw [← hu, List.getElem?_drop])⟩
theorem rd_cut {w : World} {b off : Nat} {ys zs : List Nat} (h : Rd w (some ⟨b, off, none⟩) (vals .u8 ys)) (j m : Nat) (e : (ys.drop j).take m = zs) : Rd w (some ⟨b, off + j, none⟩) (vals .u8 zs) := by
  have h1 := rd_off h j
  rw [← vals_drop] at h1
  rw [← e]
  exact rd_take (ys := (ys.drop j).drop m) (by rw [List.take_append_drop]; exact h1)

theorem row3h {w : World} {g : Nat} {x y z : Value} {t : TypeId} (h : Hid (w.heap[g]? = some (.cells #[x, y, z] t (0, 0)))) (a b c : Value) : (((w.setCell ⟨g, 0, none⟩ a).setCell ⟨g, 1, none⟩ b).setCell ⟨g, 2, none⟩ c).heap[g]? = some (.cells #[a, b, c] t (0, 0)) := row3 h.out a b c
theorem dec_done {w w2 w6 : World} {p k s c6 : Nat} {xs : List Nat} {A6 : Option Addr} {a b c : Value} (hk : xs.length = k) (ho : w6.ownsRow w2.heap.size 5 1 (.slice A6 (0 + k) c6) (0 + k) (vals .u8 ([] ++ xs))) (hs : w.heap.size < w2.heap.size) (hx : Ext w w2) (hx6 : Ext w2 w6) :
    RetTok p xs s w (.returned (.tuple #[tokV (p : Int) A6 k c6 (s : Int), .int .i64 0])) (((w6.setCell ⟨w.heap.size, 0, none⟩ a).setCell ⟨w.heap.size, 1, none⟩ b).setCell ⟨w.heap.size, 2, none⟩ c) := by
  subst hk
  rw [Nat.zero_add, List.nil_append] at ho
  have hg := grown_setCell (grown_setCell (grown_set w6 w.heap.size 0 a) 1 b) 2 c
  refine ⟨A6, c6, rfl, own_base (ho.kept hg ?_) (Nat.le_of_lt hs), ?_⟩
  · cases hA : (Value.slice A6 xs.length c6).ownBlock with
    | none => exact .inl rfl
    | some q => right; intro e; injection e with e; have := own_ge ho q hA; omega
  · exact (hx.trans hx6).grown hg (fun k hk => by injection hk with hk; omega)

set_option maxHeartbeats 2000000 in
theorem decode_ok (w : World) (p s k : Nat) (A : Option Addr) (n c : Nat) (xs : List Nat) (hk : xs.length = k) (hn : n = k + 16) (hb : ∀ x ∈ xs, x < 256) (hr : Rd w A (vals .u8 (tokB p xs s))) (hnc : n ≤ c) (h1 : 1 ≤ s) (h2 : s ≤ 4611686018427387903) (h4 : p < 32) (hk' : k ≤ 255) :
    Calls Try.prog 32 #[.slice A n c] w (RetTok p xs s w) := by
  obtain ⟨b, off, hA, hc⟩ := hr (by simp [vals, tokB, bodyT])
  subst hA
  have c0 : w.cell? ⟨b, off, none⟩ = some (.int .u8 83) := hc 0 _ rfl
  have c1 : w.cell? ⟨b, off + 1, none⟩ = some (.int .u8 71) := hc 1 _ rfl
  have c2 : w.cell? ⟨b, off + 2, none⟩ = some (.int .u8 (p : Int)) := hc 2 _ rfl
  have c3 : w.cell? ⟨b, off + 3, none⟩ = some (.int .u8 (k : Int)) := by rw [← hk]; exact hc 3 _ rfl
  have Hr := Lib.hid hr; have Hk := Lib.hid hk; have Hb := Lib.hid hb
  clear hc hr hk hb
  have d0 := cell_past c0; have d1 := cell_past c1; have d2 := cell_past c2; have d3 := cell_past c3
  have hne : ((n : Int) != 4 + (k : Int) + 12) = false := by simp; omega
  have n1 : k + 16 ≤ n := by omega
  have n2 : n ≤ k + 16 := by omega
  have n3 : ¬ c = 4 + k := by omega
  have n4 : ¬ c = 4 + k + 8 := by omega
  have r1 := rd_cut (zs := wordB s 8) Hr.out (4 + k) 8 (by have := tok_num p xs s; rw [Hk.out, Nat.add_comm] at this; exact this)
  have r2 := rd_cut (zs := wordB (sumT (bodyT p xs s)) 4) Hr.out (4 + k + 8) 4 (by
    have := tok_sum p xs s
    rw [Hk.out, show k + 12 = 4 + k + 8 by omega] at this
    rw [this, List.take_of_length_le (by rw [wordB_len]; omega)])
  have r3 : Rd w (some ⟨b, off, none⟩) (vals .u8 (bodyT p xs s)) := rd_cut Hr.out 0 (k + 12) (by rw [List.drop_zero, ← Hk.out]; exact tok_body p xs s)
  have r4 := rd_cut (zs := xs) Hr.out 4 k (by have := tok_key p xs s; rw [Hk.out] at this; exact this)
  have R1 := Lib.hid r1; have R2 := Lib.hid r2; have R3 := Lib.hid r3; have R4 := Lib.hid r4
  clear r1 r2 r3 r4 hn
  go_enter Try.func32, Try.ntmps32
  go_wp2_with fail
  have hnum8 : numB (wordB s 8) = s := by
    rw [numB_wordB]
    exact Nat.mod_eq_of_lt (Nat.lt_of_le_of_lt h2 (by decide))
  refine (tokNumber_any _ _ 8 _ (wordB s 8) (wordB_len s 8) (by omega) (wordB_lt s 8) (R1.out.alloc _)).mono ?_
  rintro e w1 ⟨rfl, hw1⟩
  rw [hnum8]
  obtain ⟨U, hU⟩ : ∃ U, upd 14695981039346656037 (bodyT p xs s) = U := ⟨_, rfl⟩
  have hUlt : U < 18446744073709551616 := by rw [← hU]; exact upd_lt _ _ (by omega)
  have hs4 : sumT (bodyT p xs s) = U % 4294967296 := by rw [sumT, hU]
  have hnum4 : numB (wordB (sumT (bodyT p xs s)) 4) = U % 4294967296 := by
    rw [numB_wordB, hs4]
    exact Nat.mod_mod _ _
  have hbl : (bodyT p xs s).length = 4 + k + 8 := by rw [bodyT_len, Hk.out]; omega
  have hbb : ∀ x ∈ bodyT p xs s, x < 256 := fun x hx => by
    simp only [bodyT, List.mem_cons, List.mem_append] at hx
    rcases hx with rfl | rfl | rfl | rfl | hx | hx
    · omega
    · omega
    · omega
    · have := Hk.out; omega
    · exact Hb.out x hx
    · exact wordB_lt _ _ x hx
  have C2 := Lib.hid (fun q => tokNumber_any (w1.drewN q) (some ⟨b, off + (4 + k + 8), none⟩) (n - (4 + k + 8)) (c - (4 + k + 8)) (wordB (sumT (bodyT p xs s)) 4) (by rw [wordB_len]; omega) (by omega) (wordB_lt _ 4) (by rw [← hw1]; exact (R2.out.alloc _).drewN q))
  have C3 := Lib.hid (fun q => sum_any (some ⟨b, off, none⟩) (4 + k + 8) c (bodyT p xs s) (w1.drewN q) hbl hbb (by omega) (by rw [← hw1]; exact (R3.out.alloc _).drewN q))
  rw [hnum4] at C2
  rw [hU] at C3
  have hand := and_sum U hUlt
  have k0 : w1.heap[w.heap.size]? = some (.cells #[.int .i64 0, .slice none 0 0, .int .i64 0] 53 (0, 0)) := by rw [← hw1]; exact heap_alloc_new w _
  have k2 : w1.cell? ⟨b, off + 2, none⟩ = some (.int .u8 (p : Int)) := by rw [← hw1]; exact d2 _
  have hx1 : Ext w w1 := by rw [← hw1]; exact (Ext.refl w).alloc _
  have R4' := Lib.hid (R4.out.ext hx1)
  clear hw1 hU hs4 hnum4 hbl hbb hnum8 c0 c1 c2 c3 d0 d1 d2 d3 R1 R2 R3
  have q1 : decide ((s : Int) < 1) = false := by simp; omega
  have q2 : decide (4611686018427387903 < (s : Int)) = false := by simp; omega
  go_upto_region 7 with fail
  go_quiet ((first
    | (go_at_call 69; exact quiet_eq (C2.out _))
    | (go_at_call 69; exact quiet_add_eq (C2.out _))
    | (go_at_call 67; exact quiet_eq (C3.out _))
    | (go_at_call 67; exact quiet_add_eq (C3.out _))))
  clear hand C2 C3 q1 q2 hUlt
  go_upto_region 9 with fail
  obtain ⟨w2, hw2⟩ : ∃ w2, w1.drewN nq = w2 := ⟨_, rfl⟩
  have k0' : w2.heap[w.heap.size]? = some (.cells #[.int .i64 0, .slice none 0 0, .int .i64 0] 53 (0, 0)) := by rw [← hw2]; exact k0
  have k2' : w2.cell? ⟨b, off + 2, none⟩ = some (.int .u8 (p : Int)) := by rw [← hw2]; exact k2
  have hx2 : Ext w w2 := by rw [← hw2]; exact hx1.drewN nq
  have hs2 : w.heap.size < w2.heap.size := by rw [← hw2]; exact blk_lt k0
  have R5 := Lib.hid (R4.out.ext hx2)
  rw [hw2]
  clear hw2 k0 k2 hx1 R4'
  have w1s : IntKind.i64.wrap (s : Int) = (s : Int) := by rw [IntKind.wrap_i64]; omega
  have w1p : IntKind.i64.wrap (p : Int) = (p : Int) := by rw [IntKind.wrap_i64]; omega
  have hsl : ∀ u : World, (Instr.slice 28 (.slice (some ⟨b, off, none⟩) n c) (some (.int .i64 4)) (some (.int .i64 (4 + (k : Int)))) none).run Try.prog u = .ok (.slice (some ⟨b, off + 4, none⟩) k (c - 4)) u := fun u => slice_mid Try.underlying28 size_u8 4 (4 + k) rfl (by omega) (by omega) hnc (by omega) (by omega) (by omega) u
  go_region_law ((refine step_app_u8 w2.drew rfl (.const (.slice none 0 0)) (.tmp 81) rfl w2.heap.size (B := none) (n := 0) (cb := 0) (xs := []) (by simp [Act.eval]) (World.ownsRow_nil _ _ _ _) (A := some ⟨b, off + 4, none⟩) (m := k) (c := c - 4) (news := xs) (by simp [Act.eval, Act.put]) Hk.out (show Rd w2.drew _ _ from R5.out) (by omega) (by simp) ?_; intro A6 c6 w6 hown6 hgrow6 _; have hx6 : Ext w2 w6 := ((Ext.refl w2).drew).grown hgrow6 (by simp [Value.ownBlock]); have k6 : w6.cell? ⟨b, off + 2, none⟩ = some (.int .u8 (p : Int)) := (hx6.cell (p := ⟨b, off + 2, none⟩) (World.block_lt_of_cell? w2 _ k2')).trans k2'; have k60 := Lib.hid (blk_ext k0' hx6); have g0 := blk_cell k60.out 0; have g1 := blk_cell k60.out 1; have g2 := blk_cell k60.out 2; have f0 := blk_frozen k60.out 0; have f1 := blk_frozen k60.out 1; have f2 := blk_frozen k60.out 2))
  all_goals
    go_wp2_with fail
    refine bodyPost_ret (ret_tok rfl rfl (row3h (by assumption) _ _ _)) rfl ?_
    exact dec_done Hk.out (by assumption) hs2 hx2 (by assumption)
end

section
open Go.RowKit

theorem decode_few (w : World) (A : Option Addr) (n c : Nat) (hn : n < 16) :
    Calls Try.prog 32 #[.slice A n c] w (RetE (.tuple #[tokZ, .int .i64 3]) w) := by
  go_enter Try.func32, Try.ntmps32
  go_wp2_with fail
  refine bodyPost_ret (ret_tok rfl rfl (heap_alloc_new w _)) rfl ?_
  exact ⟨rfl, (Ext.refl w).alloc _⟩
/-- the first bytes -/
theorem heads {w : World} {A : Option Addr} {ys : List Nat} (hr : Rd w A (vals .u8 ys)) (hl : 4 ≤ ys.length) :
    ∃ b off y0 y1 y2 y3 : Nat, A = some ⟨b, off, none⟩ ∧ w.cell? ⟨b, off, none⟩ = some (.int .u8 (y0 : Int)) ∧ w.cell? ⟨b, off + 1, none⟩ = some (.int .u8 (y1 : Int)) ∧ w.cell? ⟨b, off + 2, none⟩ = some (.int .u8 (y2 : Int)) ∧ w.cell? ⟨b, off + 3, none⟩ = some (.int .u8 (y3 : Int)) ∧
      ys[0]? = some y0 ∧ ys[1]? = some y1 ∧ ys[2]? = some y2 ∧ ys[3]? = some y3 := by
  match ys, hl with
  | a :: b :: c :: d :: r, _ =>
    obtain ⟨bb, off, hA, hc⟩ := hr (by simp [vals])
    exact ⟨bb, off, a, b, c, d, hA, hc 0 _ rfl, hc 1 _ rfl, hc 2 _ rfl, hc 3 _ rfl, rfl, rfl, rfl, rfl⟩

set_option maxHeartbeats 2000000 in
theorem decode_bad1 (w : World) (b off n c y0 y1 y2 y3 : Nat) (hn : 16 ≤ n) (hn' : n ≤ 4096) (hy0 : y0 < 256) (hy1 : y1 < 256) (hy2 : y2 < 256) (hy3 : y3 < 256)
    (c0 : w.cell? ⟨b, off, none⟩ = some (.int .u8 (y0 : Int))) (c1 : w.cell? ⟨b, off + 1, none⟩ = some (.int .u8 (y1 : Int))) (c2 : w.cell? ⟨b, off + 2, none⟩ = some (.int .u8 (y2 : Int))) (c3 : w.cell? ⟨b, off + 3, none⟩ = some (.int .u8 (y3 : Int)))
    (h : y0 ≠ 83 ∨ y1 ≠ 71 ∨ 32 ≤ y2 ∨ n ≠ 4 + y3 + 12) :
    Calls Try.prog 32 #[.slice (some ⟨b, off, none⟩) n c] w (RetE (.tuple #[tokZ, .int .i64 3]) w) := by
  have d0 := cell_past c0; have d1 := cell_past c1; have d2 := cell_past c2; have d3 := cell_past c3
  clear c0 c1 c2 c3
  have q0 : y0 ≠ 83 → ((y0 : Int) != 83) = true := fun h => by simp; omega
  have q1 : y1 ≠ 71 → ((y1 : Int) != 71) = true := fun h => by simp; omega
  have q3 : n ≠ 4 + y3 + 12 → ((n : Int) != 4 + (y3 : Int) + 12) = true := fun h => by simp; omega
  by_cases h0 : y0 = 83
  · subst h0
    by_cases h1 : y1 = 71
    · subst h1
      by_cases h2 : 32 ≤ y2
      · clear q0 q1 q3 h
        go_enter Try.func32, Try.ntmps32
        go_wp2_with fail
        refine bodyPost_ret (ret_tok rfl rfl (heap_alloc_new w _)) rfl ?_
        exact ⟨rfl, (Ext.refl w).alloc _⟩
      · have h2' : y2 < 32 := by omega
        have hne := q3 (by omega)
        clear q0 q1 q3 h h2
        go_enter Try.func32, Try.ntmps32
        go_wp2_with fail
        refine bodyPost_ret (ret_tok rfl rfl (heap_alloc_new w _)) rfl ?_
        exact ⟨rfl, (Ext.refl w).alloc _⟩
    · have hne := q1 h1
      clear q0 q1 q3 h h1
      go_enter Try.func32, Try.ntmps32
      go_wp2_with fail
      refine bodyPost_ret (ret_tok rfl rfl (heap_alloc_new w _)) rfl ?_
      exact ⟨rfl, (Ext.refl w).alloc _⟩
  · have hne := q0 h0
    clear q0 q1 q3 h h0
    go_enter Try.func32, Try.ntmps32
    go_wp2_with fail
    refine bodyPost_ret (ret_tok rfl rfl (heap_alloc_new w _)) rfl ?_
    exact ⟨rfl, (Ext.refl w).alloc _⟩

theorem row3n (w : World) (x y z : Value) (t : TypeId) (q : Nat) (a b c : Value) : (((((w.alloc (.cells #[x, y, z] t)).drewN q).setCell ⟨w.heap.size, 0, none⟩ a).setCell ⟨w.heap.size, 1, none⟩ b).setCell ⟨w.heap.size, 2, none⟩ c).heap[w.heap.size]? = some (.cells #[a, b, c] t (0, 0)) :=
  row3 (w := (w.alloc (.cells #[x, y, z] t)).drewN q) (heap_alloc_new w _) a b c
theorem ext3n (w : World) (o : Obj) (q : Nat) (a b c : Value) : Ext w (((((w.alloc o).drewN q).setCell ⟨w.heap.size, 0, none⟩ a).setCell ⟨w.heap.size, 1, none⟩ b).setCell ⟨w.heap.size, 2, none⟩ c) :=
  (((((Ext.refl w).alloc o).drewN q).setCell (p := ⟨w.heap.size, 0, none⟩) (Nat.le_refl _) a).setCell (p := ⟨w.heap.size, 1, none⟩) (Nat.le_refl _) b).setCell (p := ⟨w.heap.size, 2, none⟩) (Nat.le_refl _) c
set_option maxHeartbeats 2000000 in
theorem decode_bad2 (w : World) (b off n c p k : Nat) (ys : List Nat) (hl : ys.length = n) (hb : ∀ x ∈ ys, x < 256) (hr : Rd w (some ⟨b, off, none⟩) (vals .u8 ys)) (hnc : n ≤ c) (hn : n = k + 16) (hk : k < 256) (hp : p < 32)
    (c0 : w.cell? ⟨b, off, none⟩ = some (.int .u8 83)) (c1 : w.cell? ⟨b, off + 1, none⟩ = some (.int .u8 71)) (c2 : w.cell? ⟨b, off + 2, none⟩ = some (.int .u8 (p : Int))) (c3 : w.cell? ⟨b, off + 3, none⟩ = some (.int .u8 (k : Int)))
    (h : numB ((ys.drop (4 + k)).take 8) < 1 ∨ 4611686018427387903 < numB ((ys.drop (4 + k)).take 8) ∨ numB (ys.drop (4 + k + 8)) ≠ upd 14695981039346656037 (ys.take (4 + k + 8)) % 4294967296) :
    Calls Try.prog 32 #[.slice (some ⟨b, off, none⟩) n c] w (RetE (.tuple #[tokZ, .int .i64 3]) w) := by
  have d0 := cell_past c0; have d1 := cell_past c1; have d2 := cell_past c2; have d3 := cell_past c3
  clear c0 c1 c2 c3
  have hne : ((n : Int) != 4 + (k : Int) + 12) = false := by simp; omega
  have n1 : k + 16 ≤ n := by omega
  have n2 : n ≤ k + 16 := by omega
  have n3 : ¬ c = 4 + k := by omega
  have n4 : ¬ c = 4 + k + 8 := by omega
  have r1 := rd_cut (zs := (ys.drop (4 + k)).take 8) hr (4 + k) 8 rfl
  have r2 := rd_cut (zs := ys.drop (4 + k + 8)) hr (4 + k + 8) 4 (by rw [List.take_of_length_le (by rw [List.length_drop]; omega)])
  have r3 : Rd w (some ⟨b, off, none⟩) (vals .u8 (ys.take (4 + k + 8))) := rd_cut hr 0 (4 + k + 8) (by rw [List.drop_zero])
  have l1 : ((ys.drop (4 + k)).take 8).length = 8 := by rw [List.length_take, List.length_drop]; omega
  have l2 : (ys.drop (4 + k + 8)).length = n - (4 + k + 8) := by rw [List.length_drop]; omega
  have l3 : (ys.take (4 + k + 8)).length = 4 + k + 8 := by rw [List.length_take]; omega
  have b1 : ∀ x ∈ (ys.drop (4 + k)).take 8, x < 256 := fun x hx => hb x (List.mem_of_mem_drop (List.mem_of_mem_take hx))
  have b2 : ∀ x ∈ ys.drop (4 + k + 8), x < 256 := fun x hx => hb x (List.mem_of_mem_drop hx)
  have b3 : ∀ x ∈ ys.take (4 + k + 8), x < 256 := fun x hx => hb x (List.mem_of_mem_take hx)
  have C1 := Lib.hid (fun (o : Obj) => tokNumber_any (w.alloc o) (some ⟨b, off + (4 + k), none⟩) 8 (c - (4 + k)) _ l1 (by omega) b1 (r1.alloc o))
  have C2 := Lib.hid (fun (o : Obj) q => tokNumber_any ((w.alloc o).drewN q) (some ⟨b, off + (4 + k + 8), none⟩) (n - (4 + k + 8)) (c - (4 + k + 8)) _ l2 (by omega) b2 ((r2.alloc o).drewN q))
  have C3 := Lib.hid (fun (o : Obj) q => sum_any (some ⟨b, off, none⟩) (4 + k + 8) c _ ((w.alloc o).drewN q) l3 b3 (by omega) ((r3.alloc o).drewN q))
  have hS := numB_lt_of _ b1 (by omega)
  have hQ := numB_lt_of _ b2 (by omega)
  have hU := upd_lt 14695981039346656037 (ys.take (4 + k + 8)) (by omega)
  generalize numB ((ys.drop (4 + k)).take 8) = s at *
  generalize numB (ys.drop (4 + k + 8)) = q at *
  generalize upd 14695981039346656037 (ys.take (4 + k + 8)) = U at *
  have hand := and_sum U hU
  clear hl hb hr r1 r2 r3 l1 l2 l3 b1 b2 b3 hn
  by_cases hs : s < 1 ∨ 4611686018427387903 < s
  · have hcase : (decide ((s : Int) < 1) = true) ∨ (decide ((s : Int) < 1) = false ∧ decide (4611686018427387903 < (s : Int)) = true) := by
      by_cases h1 : s < 1
      · left; simp; omega
      · right; simp; omega
    clear h hs hand C2 C3
    rcases hcase with q1 | ⟨q1, q2⟩
    all_goals
      go_enter Try.func32, Try.ntmps32
      go_wp2_with fail
      refine (C1.out _).mono ?_
      rintro e w1 ⟨rfl, rfl⟩
      go_upto_region 7 with fail
      go_quiet (fail)
      go_wp2_with fail
      refine bodyPost_ret (ret_tok rfl rfl (row3n w _ _ _ _ _ _ _ _)) rfl ?_
      exact ⟨rfl, ext3n w _ _ _ _ _⟩
  · have q1 : decide ((s : Int) < 1) = false := by simp; omega
    have q2 : decide (4611686018427387903 < (s : Int)) = false := by simp; omega
    have hqq : ((q : Int) != ((U % 4294967296 : Nat) : Int)) = true := by
      have : q ≠ U % 4294967296 := by omega
      simp; omega
    clear h hs
    go_enter Try.func32, Try.ntmps32
    go_wp2_with fail
    refine (C1.out _).mono ?_
    rintro e w1 ⟨rfl, rfl⟩
    go_upto_region 7 with fail
    go_quiet ((first
      | (go_at_call 69; exact quiet_eq (C2.out _ _))
      | (go_at_call 69; exact quiet_add_eq (C2.out _ _))
      | (go_at_call 67; exact quiet_eq (C3.out _ _))
      | (go_at_call 67; exact quiet_add_eq (C3.out _ _))))
    go_wp2_with fail
    refine bodyPost_ret (ret_tok rfl rfl (row3n w _ _ _ _ _ _ _ _)) rfl ?_
    exact ⟨rfl, ext3n w _ _ _ _ _⟩
/-- Decode of bytes that are no token's -/
theorem decode_none (w : World) (A : Option Addr) (n c : Nat) (ys : List Nat) (hl : ys.length = n) (hb : ∀ x ∈ ys, x < 256) (hr : Rd w A (vals .u8 ys)) (hnc : n ≤ c) (hn : n ≤ 4096) (h : ¬ IsTok ys) :
    Calls Try.prog 32 #[.slice A n c] w (RetE (.tuple #[tokZ, .int .i64 3]) w) := by
  by_cases hf : n < 16
  · exact decode_few w A n c hf
  · obtain ⟨b, off, y0, y1, y2, y3, rfl, c0, c1, c2, c3, e0, e1, e2, e3⟩ := heads hr (by omega)
    have b0 := hb y0 (List.mem_of_getElem? e0); have b1 := hb y1 (List.mem_of_getElem? e1); have b2 := hb y2 (List.mem_of_getElem? e2); have b3 := hb y3 (List.mem_of_getElem? e3)
    by_cases hc : y0 ≠ 83 ∨ y1 ≠ 71 ∨ 32 ≤ y2 ∨ n ≠ 4 + y3 + 12
    · exact decode_bad1 w b off n c y0 y1 y2 y3 (by omega) hn b0 b1 b2 b3 c0 c1 c2 c3 hc
    · obtain rfl : y0 = 83 := by omega
      obtain rfl : y1 = 71 := by omega
      refine decode_bad2 w b off n c y2 y3 ys hl hb hr hnc (by omega) b3 (by omega) c0 c1 c2 c3 ?_
      refine Classical.byContradiction fun hh => h ?_
      exact isTok_of ys y2 y3 _ hb (by omega) e0 e1 e2 e3 (by omega) b3 rfl (by omega) (by omega) (Classical.byContradiction fun hq => hh (.inr (.inr hq)))
end
end Go.Proofs.Ythkdjjfnmlemdaa
