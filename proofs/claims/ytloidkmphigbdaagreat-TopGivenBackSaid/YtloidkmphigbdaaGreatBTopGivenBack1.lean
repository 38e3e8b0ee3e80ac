/- Laid together: what 'TopGivenBack' needs, part 1 of 12. -/
import Derived.WalkKit
import Derived.Lib.Hide
import Derived.Maps.AppendAt
import Derived.Deep.Draws
import Derived.Lib.Bytealg
import Derived.Test.YtloidkmphigbdaaGreatProg
import Derived.Outline
import Derived.BigQuiet
import Derived.WalkLawsBesides
import Derived.BigRegion
import Derived.Deep.RegionHeld3
import Derived.Deep.DeepCutAuto
import Derived.Deep.RegionLaw
import Derived.Deep.DeepMust
import Derived.Deep.OwnRows
import Derived.Laws.EntriesVeiled
namespace Go.Proofs.YtloidkmphigbdaaGreat
set_option linter.all false

section
open Go.RowKit

/-- the numbers of a list as values of a kind -/
def vals (k : IntKind) (xs : List Nat) : List Value := xs.map fun (x : Nat) => Value.int k (x : Int)

theorem vals_get {k : IntKind} {xs : List Nat} {j x : Nat} (h : xs[j]? = some x) : (vals k xs)[j]? = some (.int k (x : Int)) := by
  simp [vals, h]
theorem vals_len (k : IntKind) (xs : List Nat) : (vals k xs).length = xs.length := by simp [vals]
theorem vals_append (k : IntKind) (xs ys : List Nat) : vals k (xs ++ ys) = vals k xs ++ vals k ys := by simp [vals]
theorem vals_one (k : IntKind) (xs : List Nat) : ∀ u ∈ vals k xs, u.oneCell' = true := by
  intro u hu
  obtain ⟨_, _, rfl⟩ := List.mem_map.1 hu
  rfl

/-- the cells of a slice value's elements read as vs -/
def Rd (w : World) (A : Option Addr) (vs : List Value) : Prop :=
  vs ≠ [] → ∃ b off, A = some ⟨b, off, none⟩ ∧ ∀ j u, vs[j]? = some u → w.cell? ⟨b, off + j, none⟩ = some u

theorem Rd.at_ {w : World} {A : Option Addr} {k : IntKind} {xs : List Nat} {j x : Nat} (h : Rd w A (vals k xs)) (hx : xs[j]? = some x) :
    ∃ b off, A = some ⟨b, off, none⟩ ∧ b < w.heap.size ∧ w.cell? ⟨b, off + j, none⟩ = some (.int k (x : Int)) := by
  obtain ⟨b, off, hA, hc⟩ := h (by intro e; have := vals_get (k := k) hx; rw [e] at this; simp at this)
  have := hc j _ (vals_get hx)
  exact ⟨b, off, hA, World.block_lt_of_cell? w _ this, this⟩

theorem get_of_lt {xs : List Nat} {j : Nat} (h : j < xs.length) : ∃ x, xs[j]? = some x := ⟨_, List.getElem?_eq_getElem h⟩
theorem take_succ_of {α : Type} {xs : List α} {k : Nat} {x : α} (h : xs[k]? = some x) : xs.take (k + 1) = xs.take k ++ [x] := by
  rw [List.take_add_one, h]; rfl

theorem Rd.keep {w w' : World} {A : Option Addr} {vs : List Value} (h : Rd w A vs) (hk : ∀ p : Addr, p.block < w.heap.size → w'.cell? p = w.cell? p) : Rd w' A vs := by
  intro hne
  obtain ⟨b, off, hA, hc⟩ := h hne
  exact ⟨b, off, hA, fun j u hu => (hk _ (World.block_lt_of_cell? w _ (hc j u hu))).trans (hc j u hu)⟩
theorem Rd.below {w w' : World} {A : Option Addr} {vs : List Value} (h : Rd w A vs) (hb : Below w.heap.size w w') : Rd w' A vs := h.keep fun _ hp => hb.cell hp
theorem Rd.drewN {w : World} {A : Option Addr} {vs : List Value} (h : Rd w A vs) (n : Nat) : Rd (w.drewN n) A vs := h
theorem Rd.nil (w : World) (A : Option Addr) : Rd w A [] := fun h => absurd rfl h

/-- two lists read at one place are one where their lengths are -/
theorem Rd.of_own {w : World} {base : Nat} {e : TypeId} {A : Option Addr} {n c : Nat} {vs : List Value} (h : w.ownsRow base e 1 (.slice A n c) n vs) : Rd w A vs := by
  intro hne
  rcases h.2 with ⟨h1, h2⟩ | ⟨g, cap, cur, h1, _⟩
  · have := h.1; rw [h2] at this; simp at this; exact absurd this hne
  · injection h1 with h1 _ _
    subst h1
    refine ⟨g, 0, rfl, fun j u hu => ?_⟩
    have := h.cells (g := g) rfl j u hu
    rw [Addr.add_lit] at this
    simpa using this

theorem ret_int {k : IntKind} {a b : Int} (h : a = b) : Ending.returned (.int k a) = Ending.returned (.int k b) := by rw [h]
theorem ret_bool {a b : Bool} (h : a = b) : Ending.returned (.bool a) = Ending.returned (.bool b) := by rw [h]
theorem ret_t2 {a b c d : Value} (h : a = b) (h' : c = d) : Ending.returned (.tuple #[a, c]) = Ending.returned (.tuple #[b, d]) := by rw [h, h']
theorem int_eq {k : IntKind} {a b : Int} (h : a = b) : Value.int k a = Value.int k b := by rw [h]
theorem bool_eq {a b : Bool} (h : a = b) : Value.bool a = Value.bool b := by rw [h]

/-- nothing that was there has turned -/
def Ext (w w' : World) : Prop := Below w.heap.size w w'
theorem Ext.refl (w : World) : Ext w w := Below.refl _ _
theorem Ext.trans {a b c : World} (h : Ext a b) (k : Ext b c) : Ext a c := Below.trans h (Below.mono k h.size)
theorem Ext.alloc {a b : World} (h : Ext a b) (o : Obj) : Ext a (b.alloc o) := Below.alloc h h.size o
theorem Ext.drew {a b : World} (h : Ext a b) : Ext a b.drew := Below.drew h
theorem Ext.drewN {a b : World} (h : Ext a b) (n : Nat) : Ext a (b.drewN n) := ⟨h.os, h.tape, h.output, h.size, h.block⟩
theorem Ext.setCell {a b : World} (h : Ext a b) {p : Addr} (hp : a.heap.size ≤ p.block) (u : Value) : Ext a (b.setCell p u) := Below.setCell h hp u
theorem Ext.grown {a b c : World} (h : Ext a b) {row : Option Nat} (hg : b.grownBy c row) (hr : ∀ k, row = some k → a.heap.size ≤ k) : Ext a c := Below.grown h hg h.size hr
theorem Rd.ext {w w' : World} {A : Option Addr} {vs : List Value} (h : Rd w A vs) (hb : Ext w w') : Rd w' A vs := h.below hb
theorem Rd.alloc {w : World} {A : Option Addr} {vs : List Value} (h : Rd w A vs) (o : Obj) : Rd (w.alloc o) A vs := h.ext ((Ext.refl w).alloc o)
theorem Rd.grown {w w' : World} {A : Option Addr} {vs : List Value} (h : Rd w A vs) {row : Option Nat} (hg : w.grownBy w' row) (hr : ∀ a, A = some a → row ≠ some a.block) : Rd w' A vs := by
  intro hne
  obtain ⟨b, off, hA, hc⟩ := h hne
  exact ⟨b, off, hA, fun j u hu => hg.cell (hc j u hu) (fun e => hr _ hA e.symm)⟩
theorem own_ext {w w' : World} {base : Nat} {e : TypeId} {size : Nat} {v : Value} {n : Nat} {xs : List Value} (h : w.ownsRow base e size v n xs) (hb : Ext w w') : w'.ownsRow base e size v n xs := by
  refine ⟨h.1, ?_⟩
  rcases h.2 with hn | ⟨g, cap, cur, rfl, hbg, hgg, rest⟩
  · exact .inl hn
  · exact .inr ⟨g, cap, cur, rfl, hbg, by rw [hb.block g (Array.getElem?_eq_some_iff.1 hgg).1]; exact hgg, rest⟩
theorem own_base {w : World} {base base' : Nat} {e : TypeId} {size : Nat} {v : Value} {n : Nat} {xs : List Value} (h : w.ownsRow base e size v n xs) (hb : base' ≤ base) : w.ownsRow base' e size v n xs := by
  refine ⟨h.1, ?_⟩
  rcases h.2 with hn | ⟨g, cap, cur, rfl, hbg, rest⟩
  · exact .inl hn
  · exact .inr ⟨g, cap, cur, rfl, by omega, rest⟩
theorem own_form {w : World} {base : Nat} {e : TypeId} {size : Nat} {v : Value} {n : Nat} {xs : List Value} (h : w.ownsRow base e size v n xs) : ∃ A c, v = .slice A n c := by
  rcases h.2 with ⟨rfl, rfl⟩ | ⟨g, cap, cur, rfl, _⟩
  · exact ⟨_, _, rfl⟩
  · exact ⟨_, _, rfl⟩
theorem own_cap {w : World} {base : Nat} {e : TypeId} {size : Nat} {A : Option Addr} {n c : Nat} {xs : List Value} (h : w.ownsRow base e size (.slice A n c) n xs) : n ≤ c := by
  rcases h.2 with ⟨h1, rfl⟩ | ⟨g, cap, cur, h1, _, _, h2, _⟩
  · omega
  · injection h1 with _ _ h1
    omega
theorem own_block {w : World} {base : Nat} {e : TypeId} {size : Nat} {A : Option Addr} {n c : Nat} {xs : List Value} (h : w.ownsRow base e size (.slice A n c) n xs) (hn : 0 < n) :
    ∃ g, A = some ⟨g, 0, none⟩ ∧ base ≤ g ∧ g < w.heap.size := by
  rcases h.2 with ⟨h1, rfl⟩ | ⟨g, cap, cur, h1, h2, h3, _⟩
  · omega
  · injection h1 with h1 _ _
    exact ⟨g, h1, h2, (Array.getElem?_eq_some_iff.1 h3).1⟩
theorem own_ge {w : World} {A : Option Addr} {n c : Nat} {base : Nat} {e : TypeId} {size : Nat} {xs : List Value} (h : w.ownsRow base e size (.slice A n c) n xs) : ∀ k, (Value.slice A n c).ownBlock = some k → base ≤ k := fun k hk => (h.lt k hk).1
theorem own_made (w : World) (cs : List Value) (e : TypeId) (size n : Nat) (hn : cs.length = n * size) (hm : n ≤ maxLen) {base : Nat} (hb : base ≤ w.heap.size) :
    (w.alloc (.cells cs.toArray e)).ownsRow base e size (.slice (some ⟨w.heap.size, 0, none⟩) n n) n cs :=
  ⟨hn, .inr ⟨w.heap.size, n, cs.toArray, rfl, hb, heap_alloc_new w _, Nat.le_refl _, hm, by simpa using hn, by rw [List.take_of_length_le (by simp [hn])]⟩⟩

theorem rd_new (w : World) (cs : List Value) (e : TypeId) : Rd (w.alloc (.cells cs.toArray e)) (some ⟨w.heap.size, 0, none⟩) cs := by
  intro _
  refine ⟨w.heap.size, 0, rfl, fun j u hu => ?_⟩
  rw [Nat.zero_add, World.cell?_alloc_new]
  simpa using hu
theorem drewN_add (w : World) (a b : Nat) : (w.drewN a).drewN b = w.drewN (a + b) := by simp [World.drewN, Nat.add_assoc]

theorem quiet_eq {P : Program} {f : FuncId} {args : Array Value} {w : World} {n : Nat} {v : Value}
    (h : Calls P f args (w.drewN n) fun e w' => e = .returned v ∧ w.drewN n = w') : Calls P f args (w.drewN n) fun e w'' => e = .returned v ∧ ∃ m, w'' = w.drewN m :=
  h.mono fun _ _ ⟨he, hm⟩ => ⟨he, n, hm.symm⟩
theorem quiet_q {P : Program} {f : FuncId} {args : Array Value} {w : World} {n : Nat} {v : Value}
    (h : Calls P f args (w.drewN n) fun e w' => e = .returned v ∧ ∃ q, w' = (w.drewN n).drewN q) : Calls P f args (w.drewN n) fun e w'' => e = .returned v ∧ ∃ m, w'' = w.drewN m :=
  h.mono fun _ _ ⟨he, q, hm⟩ => ⟨he, n + q, by rw [hm, drewN_add]⟩
theorem quiet_add_eq {P : Program} {f : FuncId} {args : Array Value} {w : World} {a n : Nat} {v : Value}
    (h : Calls P f args (w.drewN (a + n)) fun e w' => e = .returned v ∧ w.drewN (a + n) = w') : Calls P f args (w.drewN (a + n)) fun e w'' => e = .returned v ∧ ∃ m, w'' = w.drewN (a + m) :=
  h.mono fun _ _ ⟨he, hm⟩ => ⟨he, n, hm.symm⟩
theorem quiet_add_q {P : Program} {f : FuncId} {args : Array Value} {w : World} {a n : Nat} {v : Value}
    (h : Calls P f args (w.drewN (a + n)) fun e w' => e = .returned v ∧ ∃ q, w' = (w.drewN (a + n)).drewN q) : Calls P f args (w.drewN (a + n)) fun e w'' => e = .returned v ∧ ∃ m, w'' = w.drewN (a + m) :=
  h.mono fun _ _ ⟨he, q, hm⟩ => ⟨he, n + q, by rw [hm, drewN_add, Nat.add_assoc]⟩

section
variable {P : Program} (w : World)
theorem run_append_none {base : Nat} {t ty e : TypeId} {i : TypeInfo} {size : Nat} (ht : P.underlying t = some (.slice e)) (hi : P.info? e = some i)
    {v : Value} {n : Nat} {xs : List Value} (hown : w.ownsRow base e size v n xs) (c : Nat) : (Builtin.append_ #[t, t] ty #[v, .slice none 0 c]).run P w = .ok v w := by
  rcases hown.2 with ⟨rfl, rfl⟩ | ⟨g, cap, cur, rfl, _, _, hnc, _⟩
  · simp [Builtin.append_, run_underlying ht, sizeOf, typeInfo, hi, Builtin.lenOf, Builtin.firstCells]
  · simp [Builtin.append_, run_underlying ht, sizeOf, typeInfo, hi, Builtin.lenOf, Builtin.firstCells, hnc, storeCells]

/-- append onto a row of the call's own, of whatever reads as a list -/
theorem run_append_rd {base : Nat} {t ty e : TypeId} {i : TypeInfo} {z : Value} {size bytes : Nat} (ht : P.underlying t = some (.slice e)) (hi : P.info? e = some i) (hz : i.zero = some z)
    (hsize : i.size = size) (hby : i.bytes = bytes) (hzs : z.cells.size = size) (hsz : 0 < size)
    {B : Option Addr} {n cb : Nat} {xs : List Value} (hown : w.ownsRow base e size (.slice B n cb) n xs)
    {A : Option Addr} {m c : Nat} {news : List Value} (hl : news.length = m * size) (hr : Rd w A news) (h1 : ∀ u ∈ news, u.oneCell' = true)
    (h63 : n + m ≤ maxLen) (hbytes : (n + m) * bytes ≤ 140737488355328) (hbase : base ≤ w.heap.size) :
    ∃ B' cb' w', (Builtin.append_ #[t, t] ty #[.slice B n cb, .slice A m c]).run P w = .ok (.slice B' (n + m) cb') w' ∧ w'.ownsRow base e size (.slice B' (n + m) cb') (n + m) (xs ++ news) ∧
      w.grownBy w' (Value.slice B n cb).ownBlock ∧ ((Value.slice B' (n + m) cb').ownBlock = (Value.slice B n cb).ownBlock ∨ (Value.slice B' (n + m) cb').ownBlock = some w.heap.size) := by
  have fin : ∀ v' w', (Builtin.append_ #[t, t] ty #[.slice B n cb, .slice A m c]).run P w = .ok v' w' → w'.ownsRow base e size v' (n + m) (xs ++ news) →
      w.grownBy w' (Value.slice B n cb).ownBlock → (v'.ownBlock = (Value.slice B n cb).ownBlock ∨ v'.ownBlock = some w.heap.size) →
      ∃ B' cb' w', (Builtin.append_ #[t, t] ty #[.slice B n cb, .slice A m c]).run P w = .ok (.slice B' (n + m) cb') w' ∧ w'.ownsRow base e size (.slice B' (n + m) cb') (n + m) (xs ++ news) ∧
      w.grownBy w' (Value.slice B n cb).ownBlock ∧ ((Value.slice B' (n + m) cb').ownBlock = (Value.slice B n cb).ownBlock ∨ (Value.slice B' (n + m) cb').ownBlock = some w.heap.size) := by
    intro v' w' h2 h3 h4 h5
    obtain ⟨B', cb', rfl⟩ := own_form h3
    exact ⟨B', cb', w', h2, h3, h4, h5⟩
  cases A with
  | none =>
    have hn : news = [] := by
      rcases Classical.em (news = []) with h | h
      · exact h
      · obtain ⟨b, off, hA, _⟩ := hr h
        cases hA
    subst hn
    have hm : m = 0 := by
      have h0 : m * size = 0 := by rw [← hl]; rfl
      rcases Nat.mul_eq_zero.1 h0 with h | h
      · exact h
      · omega
    subst hm
    exact fin _ w (run_append_none w ht hi hown c) (by simpa using hown) (World.grownBy.refl w _) (.inl rfl)
  | some a =>
    obtain ⟨v', w', h2, h3, h4, _, h5⟩ := run_append_own_at (P := P) w base t ty e i z size bytes ht hi hz hsize hby hzs hsz _ n xs hown a m c news hl (fun j u hu => by
      obtain ⟨b, off, hA, hc⟩ := hr (by intro e; rw [e] at hu; simp at hu)
      injection hA with hA
      subst hA
      rw [Addr.add_lit]
      exact hc j u hu) h1 h63 hbytes hbase
    exact fin v' w' h2 h3 h4 h5

theorem wp_append_rd {o : Oper} {a : Act} {K : Act → World → Prop} {Q : Exit → Act → World → Prop} (s x : Operand) (t : TypeId)
    (ho : o.op = .call { callee := .builtin .append, args := #[s, x], argTypes := #[t, t] })
    (base : Nat) (e : TypeId) {i : TypeInfo} {z : Value} {size bytes : Nat} (ht : P.underlying t = some (.slice e)) (hi : P.info? e = some i) (hz : i.zero = some z)
    (hsize : i.size = size) (hby : i.bytes = bytes) (hzs : z.cells.size = size) (hsz : 0 < size)
    {B : Option Addr} {n cb : Nat} {xs : List Value} (hs : a.eval s = .slice B n cb) (hown : w.ownsRow base e size (.slice B n cb) n xs)
    {A : Option Addr} {m c : Nat} {news : List Value} (hx : a.eval x = .slice A m c) (hl : news.length = m * size) (hr : Rd w A news) (h1 : ∀ u ∈ news, u.oneCell' = true)
    (h63 : n + m ≤ maxLen) (hbytes : (n + m) * bytes ≤ 140737488355328) (hbase : base ≤ w.heap.size)
    (h : ∀ B' cb' w', w'.ownsRow base e size (.slice B' (n + m) cb') (n + m) (xs ++ news) → w.grownBy w' (Value.slice B n cb).ownBlock →
      ((Value.slice B' (n + m) cb').ownBlock = (Value.slice B n cb).ownBlock ∨ (Value.slice B' (n + m) cb').ownBlock = some w.heap.size) → K (a.put o.dst (.slice B' (n + m) cb')) w') : o.wp P a w K Q := by
  obtain ⟨B', cb', w', hrun, h2, h3, h4⟩ := run_append_rd (P := P) w (ty := o.type) ht hi hz hsize hby hzs hsz hown (c := c) hl hr h1 h63 hbytes hbase
  unfold Oper.wp execOp
  simp only [ho, resolve, invoke, builtin, Sem.run_bind, Sem.run_pure, Result.andThen_ok, List.map_toArray, List.map_cons, List.map_nil, hs, hx, hrun]
  exact h B' cb' w' h2 h3 h4
theorem wpList_append_rd {ops : Array Oper} {rest : List Oper} {o : Oper} {a : Act} {Q : Exit → Act → World → Prop} (hgd : o.guard = none) (s x : Operand) (t : TypeId)
    (ho : o.op = .call { callee := .builtin .append, args := #[s, x], argTypes := #[t, t] })
    (base : Nat) (e : TypeId) {i : TypeInfo} {z : Value} {size bytes : Nat} (ht : P.underlying t = some (.slice e)) (hi : P.info? e = some i) (hz : i.zero = some z)
    (hsize : i.size = size) (hby : i.bytes = bytes) (hzs : z.cells.size = size) (hsz : 0 < size)
    {B : Option Addr} {n cb : Nat} {xs : List Value} (hs : a.eval s = .slice B n cb) (hown : w.ownsRow base e size (.slice B n cb) n xs)
    {A : Option Addr} {m c : Nat} {news : List Value} (hx : a.eval x = .slice A m c) (hl : news.length = m * size) (hr : Rd w A news) (h1 : ∀ u ∈ news, u.oneCell' = true)
    (h63 : n + m ≤ maxLen) (hbytes : (n + m) * bytes ≤ 140737488355328) (hbase : base ≤ w.heap.size)
    (h : ∀ B' cb' w', w'.ownsRow base e size (.slice B' (n + m) cb') (n + m) (xs ++ news) → w.grownBy w' (Value.slice B n cb).ownBlock →
      ((Value.slice B' (n + m) cb').ownBlock = (Value.slice B n cb).ownBlock ∨ (Value.slice B' (n + m) cb').ownBlock = some w.heap.size) → wpList P ops Q rest (a.put o.dst (.slice B' (n + m) cb')) w') :
    wpList P ops Q (o :: rest) a w :=
  wpList_plain hgd fun _ hK => wp_append_rd w s x t ho base e ht hi hz hsize hby hzs hsz hs hown hx hl hr h1 h63 hbytes hbase fun B' cb' w' h2 h3 h4 => hK _ _ (h B' cb' w' h2 h3 h4)
end
end

section
open Go.RowKit

def ord : List Nat → List Nat → Int
  | [], [] => 0
  | [], _ :: _ => -1
  | _ :: _, [] => 1
  | a :: us, b :: bs => if a < b then -1 else if b < a then 1 else ord us bs

def toBytes (xs : List Nat) : List UInt8 := xs.map UInt8.ofNat

theorem u8_lt (a b : Nat) (ha : a < 256) (hb : b < 256) : (UInt8.ofNat a < UInt8.ofNat b) ↔ a < b := by
  rw [UInt8.lt_iff_toNat_lt]
  simp only [UInt8.toNat_ofNat']
  omega

theorem compare_ord : ∀ (xs ys : List Nat), (∀ x ∈ xs, x < 256) → (∀ y ∈ ys, y < 256) → Lib.compareBytes (toBytes xs) (toBytes ys) = ord xs ys
  | [], [], _, _ => rfl
  | [], _ :: _, _, _ => rfl
  | _ :: _, [], _, _ => rfl
  | a :: us, b :: bs, h1, h2 => by
    have ih := compare_ord us bs (fun x hx => h1 x (List.mem_cons_of_mem _ hx)) (fun y hy => h2 y (List.mem_cons_of_mem _ hy))
    have ha := h1 a List.mem_cons_self
    have hb := h2 b List.mem_cons_self
    unfold toBytes at ih ⊢
    simp only [List.map_cons, Lib.compareBytes, ord, u8_lt a b ha hb, u8_lt b a hb ha, ih]

theorem ord_eq (xs ys : List Nat) : ord xs ys = 0 ↔ xs = ys := by
  induction xs generalizing ys with
  | nil => cases ys <;> simp [ord]
  | cons a us ih =>
    cases ys with
    | nil => simp [ord]
    | cons b bs =>
      simp only [ord]
      by_cases h : a < b
      · rw [if_pos h]; simp; omega
      · by_cases h' : b < a
        · rw [if_neg h, if_pos h']; simp; omega
        · rw [if_neg h, if_neg h', ih bs]
          have : a = b := by omega
          simp [this]
theorem ord_refl (xs : List Nat) : ord xs xs = 0 := (ord_eq xs xs).2 rfl
theorem ord_trans (xs ys zs : List Nat) : (ord xs ys ≤ 0 → ord ys zs ≤ 0 → ord xs zs ≤ 0) ∧ (ord xs ys < 0 → ord ys zs ≤ 0 → ord xs zs = -1) ∧ (ord xs ys ≤ 0 → ord ys zs < 0 → ord xs zs = -1) := by
  induction xs generalizing ys zs with
  | nil => cases ys <;> cases zs <;> simp [ord]
  | cons a us ih =>
    cases ys with
    | nil => simp [ord]
    | cons b bs =>
      cases zs with
      | nil => simp [ord]
      | cons c cs =>
        have := ih bs cs
        simp only [ord]
        by_cases h1 : a < b <;> by_cases h2 : b < a <;> by_cases h3 : b < c <;> by_cases h4 : c < b <;> by_cases h5 : a < c <;> by_cases h6 : c < a <;> simp only [h1, h2, h3, h4, h5, h6, if_true, if_false] <;> first | exact this | (simp; done) | (simp; omega) | omega
/-- what the model's entries read of a slice of bytes -/
theorem run_loadB {P : Program} (w : World) (b : Nat) : ∀ (xs : List Nat) (off : Nat) (acc : ByteArray), (∀ (j x : Nat), xs[j]? = some x → w.cell? ⟨b, off + j, none⟩ = some (.int .u8 (x : Int))) →
    (Extern.Bytes.loadBytes ⟨b, off, none⟩ xs.length acc).run P w = .ok ⟨acc.data ++ (toBytes xs).toArray⟩ w
  | [], off, acc, _ => by simp [Extern.Bytes.loadBytes, toBytes]
  | x :: l, off, acc, h => by
    have h0 := h 0 x rfl
    have ih := run_loadB (P := P) w b l (off + 1) (acc.push (UInt8.ofNat x)) (fun j y hy => by
      have := h (j + 1) y (by simpa using hy)
      rw [show off + 1 + j = off + (j + 1) by omega]; exact this)
    simp only [Nat.add_zero] at h0
    simp only [List.length_cons, Extern.Bytes.loadBytes, Sem.run_bind, run_load, h0, Result.andThen]
    rw [Addr.add_lit]
    simp only [Int.toNat_natCast]
    have e : (x.toUInt8 : UInt8) = UInt8.ofNat x := rfl
    rw [e, ih]
    congr 1
    apply ByteArray.ext
    simp [ByteArray.push, toBytes]
theorem run_bytesB {P : Program} {w : World} {A : Option Addr} {n c : Nat} {xs : List Nat} (hl : xs.length = n) (hr : Rd w A (vals .u8 xs)) :
    (Extern.Bytes.bytesOf (.slice A n c)).run P w = .ok ⟨(toBytes xs).toArray⟩ w := by
  cases xs with
  | nil =>
    subst hl
    cases A <;> rfl
  | cons x l =>
    obtain ⟨b, off, rfl, hc⟩ := hr (by simp [vals])
    have := run_loadB (P := P) w b (x :: l) off .empty (fun j y hy => hc j _ (vals_get hy))
    rw [hl] at this
    unfold Extern.Bytes.bytesOf
    rw [this]
    congr 1
    apply ByteArray.ext
    simp
theorem run_cmpB {P : Program} {w : World} {A B : Option Addr} {n c m d : Nat} {xs ys : List Nat} (hl : xs.length = n) (hr : Rd w A (vals .u8 xs)) (hl' : ys.length = m) (hr' : Rd w B (vals .u8 ys))
    (hb : ∀ x ∈ xs, x < 256) (hb' : ∀ x ∈ ys, x < 256) :
    (Extern.BytealgCompare.compare #[.slice A n c, .slice B m d]).run P w = .ok (.int .i64 (ord xs ys)) w := by
  change Sem.run P (do pure (goInt (Extern.BytealgCompare.cmp (← Extern.Bytes.bytesOf (.slice A n c)) (← Extern.Bytes.bytesOf (.slice B m d))))) w = _
  simp only [Sem.run_bind, Sem.run_pure, Result.andThen, run_bytesB hl hr, run_bytesB hl' hr']
  rw [Lib.cmp_eq]
  simp only [compare_ord xs ys hb hb']
  rfl
end

section
open Go.RowKit

def stepH (h x : Nat) : Nat := (h ^^^ x) * 1099511628211 % 18446744073709551616
def upd (h : Nat) (xs : List Nat) : Nat := xs.foldl stepH h
theorem stepH_lt (h x : Nat) : stepH h x < 18446744073709551616 := by unfold stepH; omega
theorem upd_nil (h : Nat) : upd h [] = h := by rw [upd, List.foldl_nil]
theorem upd_cons (h x : Nat) (xs : List Nat) : upd h (x :: xs) = upd (stepH h x) xs := by rw [upd, List.foldl_cons, upd]
theorem upd_append (h : Nat) (xs ys : List Nat) : upd h (xs ++ ys) = upd (upd h xs) ys := by rw [upd, List.foldl_append, upd, upd]
theorem upd_snoc (h : Nat) (xs : List Nat) (x : Nat) : upd h (xs ++ [x]) = stepH (upd h xs) x := by rw [upd_append, upd_cons, upd_nil]
theorem upd_lt (h : Nat) (xs : List Nat) (hh : h < 18446744073709551616) : upd h xs < 18446744073709551616 := by
  induction xs generalizing h with
  | nil => rw [upd_nil]; exact hh
  | cons x xs ih => rw [upd_cons]; exact ih _ (stepH_lt h x)
theorem stepH_val (h x : Nat) : IntKind.u64.wrap (((h ^^^ x : Nat) : Int) * 1099511628211) = ((stepH h x : Nat) : Int) := by
  rw [IntKind.wrap_u64, stepH]; omega

theorem xor_split (H x : Nat) (hx : x < 256) : H / 256 * 256 + ((H % 256) ^^^ x) = H ^^^ x := by
  have h1 : (H ^^^ x) / 256 = H / 256 := by
    have := @Nat.xor_div_two_pow H x 8
    simp only [Nat.reducePow] at this
    rw [this, Nat.div_eq_of_lt hx, Nat.xor_zero]
  have h2 : (H ^^^ x) % 256 = (H % 256) ^^^ x := by
    have := @Nat.xor_mod_two_pow H x 8
    simp only [Nat.reducePow] at this
    rw [this, Nat.mod_eq_of_lt hx]
  omega

theorem xor_lt64 (H x : Nat) (hH : H < 18446744073709551616) (hx : x < 256) : H ^^^ x < 18446744073709551616 := by
  have := @Nat.xor_lt_two_pow H x 64 (by omega) (by omega)
  simpa using this

/-- the document's byte: its xor in halves -/
theorem refX (H x : Nat) (hH : H < 18446744073709551616) (hx : x < 256) :
    IntKind.u64.wrap ((H : Int) / 256 * 256 + IntKind.u64.wrap (bits .xor .u8 ((H : Int) % 256) (x : Int))) = ((H ^^^ x : Nat) : Int) := by
  have e : ((H : Int) % 256) = ((H % 256 : Nat) : Int) := by omega
  have h3 := xor_split H x hx
  have h4 := xor_lt64 H x hH hx
  have h5 := xor_lt64 (H % 256) x (by omega) hx
  have h6 := IntWalk.u64_in ((H % 256 ^^^ x : Nat) : Int) (by omega)
  rw [e, Go.u8_xor_nat _ _ (by omega) hx, h6, IntWalk.u64_in _ (by omega)]
  omega
theorem refStep (X : Nat) (hX : X < 18446744073709551616) :
    IntKind.u64.wrap (IntKind.u64.wrap (bits .and .u64 (X : Int) 4294967295 * 435) +
      IntKind.u64.wrap (IntKind.u64.wrap (IntKind.u64.wrap ((X : Int) / 4294967296 * 435) + IntKind.u64.wrap (bits .and .u64 (X : Int) 4294967295 * 256)) * 4294967296)) =
    ((X * 1099511628211 % 18446744073709551616 : Nat) : Int) := by
  have e : bits .and .u64 (X : Int) 4294967295 = ((X % 4294967296 : Nat) : Int) := by
    have := Go.u64_and_nat X 4294967295 hX (by omega)
    rw [show ((4294967295 : Nat) : Int) = (4294967295 : Int) from rfl] at this
    rw [this, show (4294967295 : Nat) = 2 ^ 32 - 1 from rfl, Nat.and_two_pow_sub_one_eq_mod]
  rw [e]
  simp only [IntKind.wrap_u64]
  omega
theorem refStepH (H x : Nat) (hH : H < 18446744073709551616) (hx : x < 256) {W : Int} (hW : W = ((H ^^^ x : Nat) : Int)) :
    IntKind.u64.wrap (IntKind.u64.wrap (bits .and .u64 W 4294967295 * 435) +
      IntKind.u64.wrap (IntKind.u64.wrap (IntKind.u64.wrap (W / 4294967296 * 435) + IntKind.u64.wrap (bits .and .u64 W 4294967295 * 256)) * 4294967296)) =
    ((stepH H x : Nat) : Int) := by
  rw [hW, refStep _ (xor_lt64 H x hH hx), stepH]

/-- which of 2^level shards -/
def shardN (s level : Nat) : Nat := s % 2 ^ level
end

section
open Go.RowKit
/-- an answer; nothing that was there has turned -/
def RetE (v : Value) (w : World) (e : Ending) (w' : World) : Prop := e = .returned v ∧ Ext w w'
theorem toE_q {P : Program} {f : FuncId} {args : Array Value} {w : World} {v : Value} (h : Calls P f args w fun e w' => e = .returned v ∧ ∃ q, w' = w.drewN q) : Calls P f args w (RetE v w) :=
  h.mono fun _ _ ⟨he, q, hw⟩ => ⟨he, hw ▸ (Ext.refl w).drewN q⟩

theorem World.grown_trans {a b c : World} {row : Option Nat} (h : a.grownBy b row) (k : b.grownBy c row) : a.grownBy c row :=
  ⟨k.os.trans h.os, k.tape.trans h.tape, k.output.trans h.output, Nat.le_trans h.size k.size, fun i hi hne => (k.block i (Nat.lt_of_lt_of_le hi h.size) hne).trans (h.block i hi hne)⟩
theorem own_lt {w : World} {base : Nat} {e : TypeId} {size : Nat} {A : Option Addr} {n c : Nat} {xs : List Value} (h : w.ownsRow base e size (.slice A n c) n xs) : ∀ a, A = some a → a.block < w.heap.size := by
  intro a ha
  subst ha
  exact (h.lt a.block rfl).2
theorem vals_set (k : IntKind) (xs : List Nat) (i x : Nat) : vals k (xs.set i x) = (vals k xs).set i (.int k (x : Int)) := by simp [vals, List.map_set]
theorem vals_drop (k : IntKind) (xs : List Nat) (i : Nat) : vals k (xs.drop i) = (vals k xs).drop i := by simp [vals, List.map_drop]
theorem vals_take (k : IntKind) (xs : List Nat) (i : Nat) : vals k (xs.take i) = (vals k xs).take i := by simp [vals, List.map_take]

/-- a cut from k on, wherever it stands -/
theorem slice_from_any {P : Program} {t e : TypeId} (ht : P.underlying t = some (.slice e)) (hz : ∀ u : World, (sizeOf e).run P u = .ok 1 u) {A : Option Addr} {n c m d : Nat} (k : Nat) {ki : Int} (hki : ki = (k : Int)) (hnc : n ≤ c) (hm : n = m + k) (hd : c = d + k) :
    ∃ A' : Option Addr, (∀ u : World, (Instr.slice t (.slice A n c) (some (.int .i64 ki)) none none).run P u = .ok (.slice A' m d) u) ∧
      (∀ (w : World) (vs : List Value), vs.length = n → Rd w A vs → Rd w A' (vs.drop k)) ∧ (∀ a, A = some a → ∃ a', A' = some a' ∧ a'.block = a.block) := by
  subst hki
  have he : P.elem t = e := by simp [Program.elem, ht]
  refine ⟨if c = k then A else A.map (·.add k), fun u => ?_, fun w vs hl hr hne => ?_, fun a ha => ?_⟩
  · rw [run_slice_l (P := P) u t A n c (by rw [he]; exact ht) .i64 (k : Int) (by omega) (by omega), he, hz]
    simp only [Result.andThen, sliced, Int.toNat_natCast, Nat.mul_one]
    congr 2 <;> omega
  · have hvn : vs ≠ [] := by rintro rfl; simp at hne
    obtain ⟨b, off, rfl, hc⟩ := hr hvn
    have hck : ¬ c = k := by
      intro h
      apply hne
      rw [List.drop_of_length_le (by omega)]
    rw [if_neg hck]
    exact ⟨b, off + k, by simp [Addr.add_lit], fun j u hu => by rw [Nat.add_assoc]; exact hc (k + j) u (by rw [← hu, List.getElem?_drop])⟩
  · subst ha
    split
    · exact ⟨a, rfl, rfl⟩
    · refine ⟨a.add k, rfl, ?_⟩
      unfold Addr.add
      split <;> rfl
end

section
open Go.RowKit

/-- the numbers of a list as int64 -/
def ivals (xs : List Int) : List Value := xs.map (Value.int .i64)
theorem ivals_get {xs : List Int} {j : Nat} (h : j < xs.length) : (ivals xs)[j]? = some (.int .i64 (xs.getD j 0)) := by
  simp [ivals, h]
theorem ivals_len (xs : List Int) : (ivals xs).length = xs.length := by simp [ivals]
theorem ivals_append (xs ys : List Int) : ivals (xs ++ ys) = ivals xs ++ ivals ys := by simp [ivals]
theorem ivals_one (xs : List Int) : ∀ u ∈ ivals xs, u.oneCell' = true := by
  intro u hu
  obtain ⟨_, _, rfl⟩ := List.mem_map.1 hu
  rfl
theorem Rd.atI {w : World} {A : Option Addr} {xs : List Int} {j : Nat} (h : Rd w A (ivals xs)) (hx : j < xs.length) :
    ∃ b off, A = some ⟨b, off, none⟩ ∧ b < w.heap.size ∧ w.cell? ⟨b, off + j, none⟩ = some (.int .i64 (xs.getD j 0)) := by
  obtain ⟨b, off, hA, hc⟩ := h (by intro e; have := ivals_get hx; rw [e] at this; simp at this)
  have := hc j _ (ivals_get hx)
  exact ⟨b, off, hA, World.block_lt_of_cell? w _ this, this⟩

theorem getD_lt {xs : List Int} {j : Nat} (h : j < xs.length) : xs[j]? = some (xs.getD j 0) := by simp [h]
theorem mem_getD {xs : List Int} {z : Int} : z ∈ xs ↔ ∃ j, j < xs.length ∧ xs.getD j 0 = z := by
  constructor
  · intro h
    obtain ⟨j, hj, e⟩ := List.getElem_of_mem h
    exact ⟨j, hj, by simp [hj, e]⟩
  · rintro ⟨j, hj, rfl⟩
    have := getD_lt hj
    exact List.mem_of_getElem? this
theorem take_succI {xs : List Int} {k : Nat} (h : k < xs.length) : xs.take (k + 1) = xs.take k ++ [xs.getD k 0] := take_succ_of (getD_lt h)

/-- the number at a place is right -/
def okAt (xs : List Int) (j : Nat) : Prop := 1 ≤ xs.getD j 0 ∧ xs.getD j 0 ≤ 4611686018427387903 ∧ (0 < j → xs.getD (j - 1) 0 < xs.getD j 0)
/-- a list of serials in order -/
def GoodL (xs : List Int) : Prop := ∀ j, j < xs.length → okAt xs j
/-- a semaphore in form -/
def Form (p : Int) (xs : List Int) : Prop := 1 ≤ p ∧ p ≤ 64 ∧ (xs.length : Int) ≤ p ∧ GoodL xs
def Ser (n : Int) : Prop := 1 ≤ n ∧ n ≤ 4611686018427387903
instance (n : Int) : Decidable (Ser n) := inferInstanceAs (Decidable (1 ≤ n ∧ n ≤ 4611686018427387903))
theorem good_lt {xs : List Int} (h : GoodL xs) : ∀ j i, i < j → j < xs.length → xs.getD i 0 < xs.getD j 0 := by
  intro j
  induction j with
  | zero => intro i hi; omega
  | succ j ih =>
    intro i hi hj
    have h1 := (h (j + 1) hj).2.2 (by omega)
    rw [Nat.add_sub_cancel] at h1
    by_cases hij : i = j
    · rw [hij]; exact h1
    · have := ih i (by omega) (by omega); omega
/-- the place of a number in a list in order -/
def At (xs : List Int) (t : Int) (k : Nat) : Prop := k ≤ xs.length ∧ (∀ j, j < k → xs.getD j 0 < t) ∧ ∀ j, k ≤ j → j < xs.length → t ≤ xs.getD j 0
theorem at_some {xs : List Int} (h : GoodL xs) (t : Int) : ∃ k, At xs t k := by
  have : ∀ m, m ≤ xs.length → ∃ k, k ≤ m ∧ (∀ j, j < k → xs.getD j 0 < t) ∧ ∀ j, k ≤ j → j < m → t ≤ xs.getD j 0 := by
    intro m
    induction m with
    | zero => intro _; exact ⟨0, Nat.le_refl _, fun j hj => by omega, fun j _ hj => by omega⟩
    | succ m ih =>
      intro hm
      obtain ⟨k, k1, k2, k3⟩ := ih (by omega)
      by_cases hk : k < m
      · refine ⟨k, by omega, k2, fun j hj hjm => ?_⟩
        by_cases e : j = m
        · subst e
          have := k3 k (Nat.le_refl _) hk
          have := good_lt h j k hk (by omega)
          omega
        · exact k3 j hj (by omega)
      · obtain rfl : k = m := by omega
        by_cases ht : xs.getD k 0 < t
        · refine ⟨k + 1, Nat.le_refl _, fun j hj => ?_, fun j h1 h2 => by omega⟩
          by_cases e : j = k
          · rw [e]; exact ht
          · exact k2 j (by omega)
        · refine ⟨k, by omega, k2, fun j h1 h2 => ?_⟩
          obtain rfl : j = k := by omega
          omega
  obtain ⟨k, k1, k2, k3⟩ := this xs.length (Nat.le_refl _)
  exact ⟨k, k1, k2, k3⟩
theorem at_mem {xs : List Int} {t : Int} {k : Nat} (h : At xs t k) (hg : GoodL xs) : t ∈ xs ↔ (k < xs.length ∧ xs.getD k 0 = t) := by
  obtain ⟨h1, h2, h3⟩ := h
  constructor
  · intro hm
    obtain ⟨j, hj, e⟩ := mem_getD.1 hm
    have hkj : k ≤ j := by
      apply Nat.le_of_not_lt
      intro hlt
      have := h2 j hlt
      omega
    refine ⟨by omega, ?_⟩
    by_cases e' : k = j
    · rw [e', e]
    · have k1 := good_lt hg j k (by omega) hj
      have k2 := h3 k (Nat.le_refl _) (by omega)
      omega
  · rintro ⟨h4, h5⟩
    exact mem_getD.2 ⟨k, h4, h5⟩
/-- a number put in its place; a place struck -/
def insL (xs : List Int) (k : Nat) (t : Int) : List Int := xs.take k ++ t :: xs.drop k
def delL (xs : List Int) (k : Nat) : List Int := xs.take k ++ xs.drop (k + 1)
theorem insL_len {xs : List Int} {k : Nat} (t : Int) (h : k ≤ xs.length) : (insL xs k t).length = xs.length + 1 := by
  simp [insL]; omega
theorem delL_len {xs : List Int} {k : Nat} (h : k < xs.length) : (delL xs k).length = xs.length - 1 := by
  simp [delL]; omega
end

section
open Go.RowKit
theorem rd_newk (w : World) (cs : List Value) (e : TypeId) {k : Nat} (hk : w.heap.size = k) : Rd (w.alloc (.cells cs.toArray e)) (some ⟨k, 0, none⟩) cs := by
  subst hk
  exact rd_new w cs e
theorem own_madek (w : World) (cs : List Value) (e : TypeId) (size n : Nat) (hn : cs.length = n * size) (hm : n ≤ maxLen) {base k : Nat} (hk : w.heap.size = k) (hb : base ≤ k) :
    (w.alloc (.cells cs.toArray e)).ownsRow base e size (.slice (some ⟨k, 0, none⟩) n n) n cs := by
  subst hk
  exact own_made w cs e size n hn hm hb
theorem blk_newk (w : World) (o : Obj) {k : Nat} (hk : w.heap.size = k) : (w.alloc o).heap[k]? = some o := by
  subst hk
  exact heap_alloc_new w o
end

section
open Go.RowKit

theorem tform_ok (N : Int) (w : World) (h : 0 ≤ N) (h' : N ≤ 4611686018427387903) : Calls Tryz.prog 55 #[.int .i64 N] w fun e w' => e = .returned (.bool true) ∧ w = w' := by
  go_enter Tryz.func55, Tryz.ntmps55
  go_wp2
  go_ret
  exact ⟨rfl, rfl⟩
end

section
open Go.RowKit

/-- the greatest cost that would be granted -/
def gleft (T Tau tat now : Int) : Int := if Tau < max tat now - now then 0 else min ((Tau - (max tat now - now)) / T + 1) ((4611686018427387903 - max tat now) / T)
set_option maxRecDepth 100000 in
theorem rcheck_ok (T Tau : Int) (w : World) (h1 : 1 ≤ T) (h2 : T ≤ 4611686018427387903) (h3 : 0 ≤ Tau) (h4 : Tau ≤ 4611686018427387903) :
    Calls Tryz.prog 68 #[.agg #[.int .i64 T, .int .i64 Tau]] w fun e w' => e = .returned (.int .i64 0) ∧ Ext w w' := by
  have hT : ¬ T < 1 := by omega
  go_enter Tryz.func68, Tryz.ntmps68
  go_wp2_with fail
  refine (tform_ok T _ (by omega) (by omega)).mono ?_
  rintro e w1 ⟨rfl, rfl⟩
  go_wp2_with fail
  refine (tform_ok Tau _ (by omega) (by omega)).mono ?_
  rintro e w1 ⟨rfl, rfl⟩
  go_wp2_with fail
  go_ret
  exact ⟨rfl, (Ext.refl w).alloc _⟩
end

section
open Go.RowKit

structure Pol where
  kind : Nat
  T : Int
  Tau : Int
  perm : Int
structure PCell where
  pol : Nat
  key : List Nat
  tat : Int
  held : List Int
structure PCall where
  op : Nat
  pol : Nat
  key : List Nat
  n : Int
structure KRep where
  er : Nat
  granted : Bool
  left : Int
  wait : Int
  ser : Int
  now : Int
def errR (e : Nat) : KRep := ⟨e, false, 0, 0, 0, 0⟩
def PCell.id (c : PCell) : List Nat := c.pol :: c.key
def PCall.id (c : PCall) : List Nat := c.pol :: c.key
def polZ : Pol := ⟨0, 0, 0, 0⟩
def polAt (P : List Pol) (i : Nat) : Pol := P.getD i polZ

/-- where an identity stands, or would -/
def atK : List PCell → List Nat → Nat
  | [], _ => 0
  | c :: l, k => if ord c.id k < 0 then atK l k + 1 else 0
def hasK (l : List PCell) (k : List Nat) : Bool := match l[atK l k]? with
  | some c => decide (c.id = k)
  | none => false
/-- what counts as its cell -/
def cellK (l : List PCell) (pol : Nat) (key : List Nat) : PCell := if hasK l (pol :: key) = true then (l[atK l (pol :: key)]?).getD ⟨pol, key, 0, []⟩ else ⟨pol, key, 0, []⟩
def withK (l : List PCell) (at_ : Nat) (there : Bool) (c : PCell) : List PCell := if there = true then l.set at_ c else l.take at_ ++ c :: l.drop at_
def sumK (k : List Nat) : Nat := upd 14695981039346656037 k
def cutK (l : List PCell) (level shard : Nat) : List PCell := l.filter fun c => decide (shardN (sumK c.id) level = shard)
def placeK (level shard : Nat) : Nat := 2 ^ level + shard % 2 ^ level
def idleK (P : List Pol) (now : Int) (c : PCell) : Bool := if (polAt P c.pol).kind = 2 then decide (c.held.length = 0) else decide (c.tat ≤ now)
/-- where a serial stands, or would -/
def atI : List Int → Int → Nat
  | [], _ => 0
  | x :: l, t => if x < t then atI l t + 1 else 0
def acqK (p : Pol) (c : PCell) (ser : Int) : KRep × PCell :=
  (⟨0, true, p.perm - ((c.held.length : Int) + 1), 0, ser, 0⟩, { c with held := insL c.held (atI c.held ser) ser })
def relK (p : Pol) (c : PCell) (ser : Int) : KRep × PCell :=
  if ser ∈ c.held then (⟨0, true, p.perm - ((c.held.length : Int) - 1), 0, 0, 0⟩, { c with held := delL c.held (atI c.held ser) }) else (errR 11, c)
/-- the generic cell rate algorithm: granted, the TAT behind it, the wait, what is left -/
def gwaitK (T Tau tat now n : Int) : Int :=
  if Tau < (n - 1) * T ∨ (4611686018427387903 - max tat now) / T < n then 4611686018427387903 else tat - now - (Tau - (n - 1) * T)
def gdecK (T Tau tat now n : Int) : Bool × Int × Int × Int :=
  if n ≤ gleft T Tau tat now then (true, (if 0 < n then max tat now + n * T else tat), 0, gleft T Tau (if 0 < n then max tat now + n * T else tat) now)
  else (false, tat, gwaitK T Tau tat now n, gleft T Tau tat now)
def allowK (p : Pol) (c : PCell) (now n : Int) : KRep × PCell :=
  let d := gdecK p.T p.Tau c.tat now n
  (⟨0, d.1, d.2.2.2, d.2.2.1, 0, now⟩, { c with tat := d.2.1 })
def peekK (p : Pol) (c : PCell) (now : Int) : KRep := ⟨0, false, gleft p.T p.Tau c.tat now, max (c.tat - now) 0, 0, now⟩
def peekS (p : Pol) (c : PCell) : KRep := ⟨0, false, p.perm - (c.held.length : Int), 0, 0, 0⟩

/-- what is done where a shard was found -/
inductive Then
  | begin
  | evict (j shards : Nat) (gone : Int)
/-- a shard that was found: its word, what was read, its cells; where the call's cell stands, whether it does -/
structure Found where
  word : Nat
  v : Nat
  cells : List PCell
  at_ : Nat
  there : Bool
inductive FThen
  | find (sum level : Nat) (t : Then)
  | move (level i : Nat)
inductive HThen
  | find (sum : Nat) (t : Then)
  | move1 (level i : Nat) (holds : List PCell)
  | move2 (level i : Nat)
/-- what is done behind a number that goes on -/
inductive MThen
  | leave (r : KRep)
  | gone (j shards : Nat) (was : Int) (n : Nat)
  | count (f : Found) (c : PCell) (r : KRep)
  | serial (f : Found) (c : PCell)
/-- what a pending call does next -/
inductive Kont
  | find (sum : Nat) (t : Then)
  | enter (sum word : Nat) (t : Then)
  | frz (word : Nat) (t : FThen)
  | frzS (word v : Nat) (holds : List PCell) (t : FThen)
  | half (level shard : Nat) (holds : List PCell) (t : HThen)
  | halfS (level shard : Nat) (holds : List PCell) (t : HThen)
  | split
  | splitS (d : Nat)
  | moveEnd (level : Nat)
  | mv (word by_ stop : Nat) (t : MThen)
  | mvS (word by_ stop v : Nat) (t : MThen)
  | put (f : Found) (c : PCell) (r : KRep)
  | peek (c : PCell)
  | allow (f : Found) (c : PCell)
  | evFirst
  | evScan (j shards : Nat) (gone : Int) (word v : Nat) (cells : List PCell)
  | evSwap (j shards : Nat) (gone : Int) (word v : Nat) (rest : List PCell) (n : Nat)
/-- a step's outcome -/
inductive KOut
  | on (k : Kont)
  | fin (r : KRep)
/-- what a step sees: the words, what they hold, the clock, what the call has got so far -/
structure KC where
  ws : List Nat
  hs : List (List PCell)
  clk : Nat
  res : Bool
  ser : Int
def never : Nat := 18446744073709551615
def frozenN : Nat := 4611686018427387904
def KC.ld (s : KC) (w : Nat) : Nat := s.ws.getD w 0
def KC.hd (s : KC) (w : Nat) : List PCell := s.hs.getD w []
def KC.sw (s : KC) (w new : Nat) (h : List PCell) : KC := { s with ws := s.ws.set w new, hs := s.hs.set w h }

def leaveK (res : Bool) (r : KRep) : KOut := if res = true then .on (.mv 32 never never (.leave r)) else .fin r
def putK (room : Nat) (res : Bool) (f : Found) (c : PCell) (r : KRep) : Kont := if f.there = true ∨ res = true then .put f c r else .mv 32 1 room (.count f c r)
def acquireK (p : Pol) (room : Nat) (res : Bool) (ser : Int) (f : Found) (c : PCell) : KOut :=
  if (c.held.length : Int) = p.perm then leaveK res (errR 9)
  else if 0 < ser then .on (putK room res f (acqK p c ser).2 (acqK p c ser).1)
  else .on (.mv 33 1 4611686018427387903 (.serial f c))
def furtherK (j shards : Nat) (gone : Int) : KOut := if j + 1 = shards then .fin ⟨0, false, gone, 0, 0, 0⟩ else .on (.find (j + 1) (.evict (j + 1) shards gone))
def beginK (P : List Pol) (room : Nat) (x : PCall) (res : Bool) (ser : Int) (word v : Nat) (cells : List PCell) : KOut :=
  let f : Found := ⟨word, v, cells, atK cells x.id, hasK cells x.id⟩
  let c := cellK cells x.pol x.key
  let p := polAt P x.pol
  if x.op = 1 then .on (.allow f c)
  else if x.op = 2 then acquireK p room res ser f c
  else if x.op = 3 then (if (relK p c x.n).1.er ≠ 0 then .fin (relK p c x.n).1 else .on (putK room res f (relK p c x.n).2 (relK p c x.n).1))
  else if p.kind = 2 then .fin (peekS p c)
  else .on (.peek c)
def thenK (P : List Pol) (room : Nat) (x : PCall) (res : Bool) (ser : Int) (word v : Nat) (cells : List PCell) : Then → KOut
  | .begin => beginK P room x res ser word v cells
  | .evict j shards gone => if cells.length = 0 then furtherK j shards gone else .on (.evScan j shards gone word v cells)
def enteredK (P : List Pol) (room : Nat) (x : PCall) (res : Bool) (ser : Int) (sum word v : Nat) (cells : List PCell) (t : Then) : KOut :=
  if v = 0 ∨ frozenN ≤ v then .on (.find sum t) else thenK P room x res ser word v cells t
def fthenK (h : List PCell) : FThen → Kont
  | .find sum level t => .half (level + 1) sum h (.find sum t)
  | .move level i => .half (level + 1) i h (.move1 level i h)
def moveK (level i : Nat) : Kont := if i = 2 ^ level then .moveEnd level else .frz (placeK level i) (.move level i)
def hthenK (P : List Pol) (room : Nat) (x : PCall) (res : Bool) (ser : Int) (word v : Nat) (h : List PCell) : HThen → KOut
  | .find sum t => if v = 0 then .on (.enter sum word t) else enteredK P room x res ser sum word v h t
  | .move1 level i holds => .on (.half (level + 1) (i + 2 ^ level) holds (.move2 level i))
  | .move2 level i => .on (moveK level (i + 1))
/-- one step of a pending call -/
def kRun (P : List Pol) (room : Nat) (x : PCall) (s : KC) : Kont → KC × KOut
  | .find sum t => (s, if s.ld 0 % 2 = 0 then .on (.enter sum (placeK (s.ld 0 / 2) sum) t) else .on (.frz (placeK (s.ld 0 / 2) sum) (.find sum (s.ld 0 / 2) t)))
  | .enter sum word t => (s, enteredK P room x s.res s.ser sum word (s.ld word) (s.hd word) t)
  | .frz word t => (s, if frozenN ≤ s.ld word then .on (fthenK (s.hd word) t) else .on (.frzS word (s.ld word) (s.hd word) t))
  | .frzS word v holds t => if s.ld word = v then (s.sw word (v + frozenN) holds, .on (fthenK holds t)) else (s, .on (.frz word t))
  | .half level shard holds t => (s, if s.ld (placeK level shard) ≠ 0 then hthenK P room x s.res s.ser (placeK level shard) (s.ld (placeK level shard)) (s.hd (placeK level shard)) t else .on (.halfS level shard holds t))
  | .halfS level shard holds t => (if s.ld (placeK level shard) = 0 then s.sw (placeK level shard) 1 (cutK holds level (placeK level shard - 2 ^ level)) else s, hthenK P room x s.res s.ser (placeK level shard) 0 [] t)
  | .split => (s, if s.ld 0 % 2 = 1 then .on (moveK (s.ld 0 / 2) 0) else if s.ld 0 / 2 = 4 then .fin (errR 5) else .on (.splitS (s.ld 0)))
  | .splitS d => if s.ld 0 = d then (s.sw 0 (d + 1) [], .on (moveK (d / 2) 0)) else (s, .on .split)
  | .moveEnd level => (if s.ld 0 = 2 * level + 1 then s.sw 0 (2 * level + 2) [] else s, .fin (errR 0))
  | .mv word by_ stop t => (s, if s.ld word = stop then (match t with
      | .leave r => .fin r
      | .gone _ _ _ _ => .fin (errR 0)
      | .count _ _ _ => .fin (errR 10)
      | .serial _ _ => leaveK s.res (errR 5)) else .on (.mvS word by_ stop (s.ld word) t))
  | .mvS word by_ stop v t => if s.ld word = v then (match t with
      | .leave r => (s.sw word ((v + by_) % 18446744073709551616) [], .fin r)
      | .gone j shards was n => (s.sw word ((v + by_) % 18446744073709551616) [], furtherK j shards (was + n))
      | .count f c r => ({ s.sw word ((v + by_) % 18446744073709551616) [] with res := true }, .on (.put f c r))
      | .serial f c => ({ s.sw word ((v + by_) % 18446744073709551616) [] with ser := (((v + by_) % 18446744073709551616 : Nat) : Int) },
          .on (putK room s.res f (acqK (polAt P x.pol) c ((v + by_) % 18446744073709551616 : Nat)).2 (acqK (polAt P x.pol) c ((v + by_) % 18446744073709551616 : Nat)).1)))
      else (s, .on (.mv word by_ stop t))
  | .put f c r => if s.ld f.word = f.v then (s.sw f.word (f.v + 1) (withK f.cells f.at_ f.there c), if f.there = false then .fin r else leaveK s.res r) else (s, .on (.find (sumK x.id) .begin))
  | .peek c => (s, .fin (peekK (polAt P x.pol) c s.clk))
  | .allow f c => (s, if (allowK (polAt P x.pol) c s.clk x.n).1.granted = false ∨ x.n = 0 then leaveK s.res (allowK (polAt P x.pol) c s.clk x.n).1 else .on (putK room s.res f (allowK (polAt P x.pol) c s.clk x.n).2 (allowK (polAt P x.pol) c s.clk x.n).1))
  | .evFirst => (s, .on (.find 0 (.evict 0 (2 ^ ((s.ld 0 + 1) / 2)) 0)))
  | .evScan j shards gone word v cells =>
    let rest := cells.filter fun c => !idleK P s.clk c
    (s, if cells.length - rest.length = 0 then furtherK j shards gone else .on (.evSwap j shards gone word v rest (cells.length - rest.length)))
  | .evSwap j shards gone word v rest n => if s.ld word = v then (s.sw word (v + 1) rest, .on (.mv 32 (18446744073709551616 - n) never (.gone j shards gone n))) else (s, furtherK j shards gone)
def firstK (x : PCall) : Kont := if x.op = 6 then .split else if x.op = 5 then .evFirst else .find (sumK x.id) .begin

/-- the 64 calls -/
inductive KCall
  | idle
  | run (x : PCall) (res : Bool) (ser : Int) (k : Kont)
structure KSt where
  ws : List Nat
  hs : List (List PCell)
  clk : Nat
  call : Nat → KCall
def KSt.kc (s : KSt) (res : Bool) (ser : Int) : KC := ⟨s.ws, s.hs, s.clk, res, ser⟩
def KSt.put (s : KSt) (who : Nat) (c : KCall) : KSt := { s with call := fun i => if i = who then c else s.call i }
theorem kput_self (s : KSt) (who : Nat) (c : KCall) : (s.put who c).call who = c := if_pos rfl
theorem kput_other (s : KSt) {who i : Nat} (c : KCall) (h : i ≠ who) : (s.put who c).call i = s.call i := if_neg h
def KSt.of (s : KSt) (c : KC) : KSt := { s with ws := c.ws, hs := c.hs, clk := c.clk }
def kStep (P : List Pol) (room : Nat) (s : KSt) (who : Nat) : KSt × Option KRep := match s.call who with
  | .idle => (s, none)
  | .run x res ser k => match kRun P room x (s.kc res ser) k with
    | (c, .on k') => ((s.of c).put who (.run x c.res c.ser k'), none)
    | (c, .fin r) => ((s.of c).put who .idle, some r)
/-- as New leaves it -/
def kInit : KSt := ⟨(List.replicate 34 0).set 1 1, List.replicate 34 [], 0, fun _ => .idle⟩
end

section

theorem ord_lt_le {a b c : List Nat} (h1 : ord a b < 0) (h2 : ord b c ≤ 0) : ord a c < 0 := by have := (ord_trans a b c).2.1 h1 h2; omega
end

section
open Go.RowKit

def SortedK (l : List PCell) : Prop := l.Pairwise fun a b => ord a.id b.id < 0
theorem atK_le : ∀ (l : List PCell) (k : List Nat), atK l k ≤ l.length
  | [], _ => Nat.le_refl _
  | e :: l, k => by
    unfold atK
    split
    · have := atK_le l k; simp only [List.length_cons]; omega
    · exact Nat.zero_le _
theorem atK_before : ∀ (l : List PCell) (k : List Nat) (i : Nat) (e : PCell), i < atK l k → l[i]? = some e → ord e.id k < 0
  | [], _, _, _, h, _ => by unfold atK at h; omega
  | x :: l, k, i, e, h, he => by
    unfold atK at h
    split at h
    · next hx =>
      cases i with
      | zero => simp at he; subst he; exact hx
      | succ i => exact atK_before l k i e (by omega) (by simpa using he)
    · omega
theorem atK_behind : ∀ (l : List PCell) (k : List Nat) (i : Nat) (e : PCell), SortedK l → atK l k ≤ i → l[i]? = some e → ¬ ord e.id k < 0
  | [], _, _, _, _, _, he => by simp at he
  | x :: l, k, i, e, hs, h, he => by
    unfold atK at h
    have hs' := List.pairwise_cons.1 hs
    split at h
    · cases i with
      | zero => omega
      | succ i => exact atK_behind l k i e hs'.2 (by omega) (by simpa using he)
    · next hx =>
      cases i with
      | zero => simp at he; subst he; exact hx
      | succ i =>
        have hm : e ∈ l := List.mem_of_getElem? (by simpa using he)
        exact fun hlt => hx (ord_lt_le (hs'.1 e hm) (by omega))
theorem atK_eq {l : List PCell} {k : List Nat} {i : Nat} (hs : SortedK l) (hi : i ≤ l.length) (h1 : ∀ j e, j < i → l[j]? = some e → ord e.id k < 0) (h2 : ∀ j e, i ≤ j → l[j]? = some e → ¬ ord e.id k < 0) : i = atK l k := by
  have hle := atK_le l k
  rcases Nat.lt_trichotomy i (atK l k) with h | h | h
  · have hil : i < l.length := by omega
    exact absurd (atK_before l k i _ h (List.getElem?_eq_getElem hil)) (h2 i _ (Nat.le_refl i) (List.getElem?_eq_getElem hil))
  · exact h
  · have hil : atK l k < l.length := by omega
    exact absurd (h1 _ _ h (List.getElem?_eq_getElem hil)) (atK_behind l k _ _ hs (Nat.le_refl _) (List.getElem?_eq_getElem hil))
theorem hasK_get {l : List PCell} {k : List Nat} (h : hasK l k = true) : ∃ c, l[atK l k]? = some c ∧ c.id = k := by
  unfold hasK at h
  cases he : l[atK l k]? with
  | none => rw [he] at h; cases h
  | some e =>
    rw [he] at h
    exact ⟨e, rfl, of_decide_eq_true h⟩
theorem hasK_ord {l : List PCell} {k : List Nat} {e : PCell} (he : l[atK l k]? = some e) : hasK l k = decide (ord e.id k = 0) := by
  unfold hasK
  rw [he]
  show decide (e.id = k) = _
  by_cases h : e.id = k
  · rw [decide_eq_true h, decide_eq_true ((ord_eq _ _).2 h)]
  · rw [decide_eq_false h, decide_eq_false (fun h2 => h ((ord_eq _ _).1 h2))]
theorem hasK_none {l : List PCell} {k : List Nat} (h : ¬ atK l k < l.length) : hasK l k = false := by
  unfold hasK
  rw [List.getElem?_eq_none (by omega)]
theorem cellK_has {l : List PCell} {pol : Nat} {key : List Nat} (h : hasK l (pol :: key) = true) : ∃ c, l[atK l (pol :: key)]? = some c ∧ c.pol = pol ∧ c.key = key ∧ cellK l pol key = c := by
  obtain ⟨c, hc, e⟩ := hasK_get h
  unfold PCell.id at e
  injection e with e1 e2
  refine ⟨c, hc, e1, e2, ?_⟩
  unfold cellK
  rw [if_pos h, hc]
  rfl
theorem cellK_new {l : List PCell} {pol : Nat} {key : List Nat} (h : hasK l (pol :: key) = false) : cellK l pol key = ⟨pol, key, 0, []⟩ := by
  unfold cellK
  rw [if_neg (by rw [h]; exact Bool.false_ne_true)]
/-- a policy in form -/
def PolOk (p : Pol) : Prop := (p.kind = 1 ∧ 1 ≤ p.T ∧ p.T ≤ 4611686018427387903 ∧ 0 ≤ p.Tau ∧ p.Tau ≤ 4611686018427387903) ∨ (p.kind = 2 ∧ 1 ≤ p.perm ∧ p.perm ≤ 64)
/-- what each cell is -/
def CellOk (P : List Pol) (c : PCell) : Prop := c.pol < P.length ∧ c.key.length ≤ 255 ∧ (∀ x ∈ c.key, x < 256) ∧ 0 ≤ c.tat ∧ c.tat ≤ 4611686018427387903 ∧ GoodL c.held ∧ c.held.length ≤ 64 ∧ ((polAt P c.pol).kind = 2 → (c.held.length : Int) ≤ (polAt P c.pol).perm)
def CellsOk (P : List Pol) (l : List PCell) : Prop := SortedK l ∧ (∀ c ∈ l, CellOk P c) ∧ l.length ≤ 5000
/-- where a serial stands -/
theorem atI_le : ∀ (l : List Int) (t : Int), atI l t ≤ l.length
  | [], _ => Nat.le_refl _
  | x :: l, t => by
    unfold atI
    split
    · have := atI_le l t; simp only [List.length_cons]; omega
    · exact Nat.zero_le _
theorem atI_before : ∀ (l : List Int) (t : Int) (i : Nat), i < atI l t → l.getD i 0 < t
  | [], _, _, h => by unfold atI at h; omega
  | x :: l, t, i, h => by
    unfold atI at h
    split at h
    · next hx =>
      cases i with
      | zero => simpa using hx
      | succ i => simpa using atI_before l t i (by omega)
    · omega
theorem atI_at {l : List Int} (hg : GoodL l) (t : Int) : At l t (atI l t) := by
  have stop : ∀ (l : List Int) (t : Int), atI l t < l.length → t ≤ l.getD (atI l t) 0 := by
    intro l t
    induction l with
    | nil => intro h; exact absurd h (Nat.not_lt_zero _)
    | cons x l ih =>
      unfold atI
      split
      · next hx =>
        intro h
        simp only [List.length_cons] at h
        simpa using ih (by omega)
      · next hx =>
        intro _
        simp
        omega
  refine ⟨atI_le l t, fun j hj => atI_before l t j hj, fun j hj hl => ?_⟩
  rcases Nat.lt_or_ge (atI l t) j with h | h
  · have h1 := stop l t (by omega)
    have h2 := good_lt hg j (atI l t) h hl
    omega
  · have e : j = atI l t := by omega
    subst e
    exact stop l t hl
end

section
open Go.RowKit
theorem blk_cell {w : World} {g : Nat} {t : TypeId} {cs : Array Value} (h : w.heap[g]? = some (.cells cs t (0, 0))) (i : Nat) : w.cell? ⟨g, i, none⟩ = cs[i]? := cell_of_row w g i cs t (0, 0) h
theorem blk_frozen {w : World} {g : Nat} {t : TypeId} {cs : Array Value} (h : w.heap[g]? = some (.cells cs t (0, 0))) (i : Nat) : w.frozen? ⟨g, i, none⟩ = false := frozen_of_row w g i cs t h
theorem blk_lt {w : World} {g : Nat} {o : Obj} (h : w.heap[g]? = some o) : g < w.heap.size := (Array.getElem?_eq_some_iff.1 h).1
theorem blk_set {w : World} {g : Nat} {t : TypeId} {cs : Array Value} (h : w.heap[g]? = some (.cells cs t (0, 0))) (i : Nat) (u : Value) : (w.setCell ⟨g, i, none⟩ u).heap[g]? = some (.cells (cs.setIfInBounds i u) t (0, 0)) := heap_setCell_same w g i cs t u h
theorem cell_past {w : World} {p : Addr} {v : Value} (h : w.cell? p = some v) (o : Obj) : (w.alloc o).cell? p = some v := (World.cell?_alloc_lt w o p (World.block_lt_of_cell? w p h)).trans h
theorem frozen_past {w : World} {p : Addr} (hlt : p.block < w.heap.size) (h : w.frozen? p = false) (o : Obj) : (w.alloc o).frozen? p = false := (World.frozen?_alloc_old w o p (Nat.ne_of_lt hlt)).trans h
theorem blk_past {w : World} {g : Nat} {o : Obj} (h : w.heap[g]? = some o) (o' : Obj) : (w.alloc o').heap[g]? = some o := (Below.heap_alloc w o' g (blk_lt h)).trans h
theorem blk_new (w : World) (o : Obj) : (w.alloc o).heap[w.heap.size]? = some o := heap_alloc_new w o
theorem grown_set (w : World) (g i : Nat) (u : Value) : w.grownBy (w.setCell ⟨g, i, none⟩ u) (some g) :=
  ⟨rfl, rfl, rfl, by simp, fun k _ hk => heap_setCell_other w ⟨g, i, none⟩ k u (fun e => hk (by simp [e]))⟩
theorem grown_alloc {w a : World} {row : Option Nat} (h : w.grownBy a row) (o : Obj) : w.grownBy (a.alloc o) row := World.grown_trans h (World.grownBy_alloc a o row)
theorem grown_setCell {w a : World} {g : Nat} (h : w.grownBy a (some g)) (i : Nat) (u : Value) : w.grownBy (a.setCell ⟨g, i, none⟩ u) (some g) := World.grown_trans h (grown_set a g i u)
theorem grown_ext {w a b : World} {row : Option Nat} (h : w.grownBy a row) (k : Ext a b) : w.grownBy b row :=
  ⟨k.os.trans h.os, k.tape.trans h.tape, k.output.trans h.output, Nat.le_trans h.size k.size, fun i hi hne => (k.block i (Nat.lt_of_lt_of_le hi h.size)).trans (h.block i hi hne)⟩
theorem blk_ext {w a : World} {g : Nat} {o : Obj} (h : w.heap[g]? = some o) (k : Ext w a) : a.heap[g]? = some o := (k.block g (blk_lt h)).trans h
theorem grown_none {a b : World} (h : Ext a b) (row : Option Nat) : a.grownBy b row := ⟨h.os, h.tape, h.output, h.size, fun i hi _ => h.block i hi⟩
theorem blk_grown {w w' : World} {g r : Nat} {o : Obj} (h : w.heap[g]? = some o) (hg : w.grownBy w' (some r)) (hne : g ≠ r) : w'.heap[g]? = some o :=
  (hg.block g (blk_lt h) (fun e => hne (by injection e))).trans h
theorem fz_past {w : World} {g : Nat} {t : TypeId} {cs : Array Value} (h : w.heap[g]? = some (.cells cs t (0, 0))) (i : Nat) (o : Obj) : (w.alloc o).frozen? ⟨g, i, none⟩ = false := frozen_past (p := ⟨g, i, none⟩) (blk_lt h) (blk_frozen h i) o
theorem grown_drew {w a : World} {row : Option Nat} (h : w.grownBy a row) : w.grownBy a.drew row := ⟨h.os, h.tape, h.output, h.size, h.block⟩
theorem grown_undrew {w a : World} {row : Option Nat} (h : w.drew.grownBy a row) : w.grownBy a row := ⟨h.os, h.tape, h.output, h.size, h.block⟩
theorem grown_new {w a b : World} {row : Option Nat} (h : w.grownBy a row) {g : Nat} (hg : a.grownBy b (some g)) (hge : w.heap.size ≤ g) : w.grownBy b row :=
  ⟨hg.os.trans h.os, hg.tape.trans h.tape, hg.output.trans h.output, Nat.le_trans h.size hg.size, fun i hi hne => (hg.block i (Nat.lt_of_lt_of_le hi h.size) (fun e => by injection e with e; omega)).trans (h.block i hi hne)⟩
theorem own_ne {w : World} {B g n c : Nat} {e : TypeId} {A : Option Addr} {xs : List Value} (h : w.ownsRow B e 1 (.slice A n c) n xs) (hg : g < B) : (Value.slice A n c).ownBlock = none ∨ (Value.slice A n c).ownBlock ≠ some g := by
  cases hA : (Value.slice A n c).ownBlock with
  | none => exact .inl rfl
  | some q => exact .inr fun e => by injection e with e; have := own_ge h q hA; omega
theorem drew_cell {w : World} {p : Addr} {v : Value} (h : w.cell? p = some v) : w.drew.cell? p = some v := h
theorem ext_cell {w w' : World} {p : Addr} {v : Value} (h : Ext w w') (hc : w.cell? p = some v) : w'.cell? p = some v := (h.cell (World.block_lt_of_cell? w p hc)).trans hc
theorem ext_grown {w W w2 : World} {g : Nat} (h : Ext w W) (hG : W.grownBy w2 (some g)) (hg : w.heap.size ≤ g) : Ext w w2 := h.grown hG (fun k hk => by injection hk with hk; omega)
theorem results_row_tmp {P : Program} {fn : Func} {p u : Tmp} {ty : TypeId} (h : fn.results = #[.cell p ty, .tmp u]) (tmps : Array Value) (w : World) (g : Nat) (t : TypeId) (cs : Array Value) (fr : Nat × Nat) (d : TypeDesc)
    (hp : tmps.getD p undef = .pointer (some ⟨g, 0, none⟩)) (hg : w.heap[g]? = some (.cells cs t fr))
    (hu : P.underlying ty = some d) (hd : (match d with | .struct _ | .array _ _ => true | _ => false) = true) (hi : (P.info? ty).map (·.size) = some cs.size) :
    (results fn tmps).run P w = .ok (.tuple #[.agg cs, tmps.getD u undef]) w := by
  rw [results_cell_tmp h, hp]
  simp [asAddr, run_loadVar_row w g t ty cs fr d hg hu hd hi, Result.andThen]
theorem grown2 (w : World) (g : Nat) (a b : Value) : w.grownBy ((w.setCell ⟨g, 0, none⟩ a).setCell ⟨g, 1, none⟩ b) (some g) := grown_setCell (grown_set w g 0 a) 1 b
theorem row2 {w : World} {g : Nat} {x y : Value} {t : TypeId} (h : w.heap[g]? = some (.cells #[x, y] t (0, 0))) (a b : Value) : ((w.setCell ⟨g, 0, none⟩ a).setCell ⟨g, 1, none⟩ b).heap[g]? = some (.cells #[a, b] t (0, 0)) := blk_set (blk_set h 0 a) 1 b
theorem ext_row2 {w w2 : World} {g : Nat} (h : Ext w w2) (hg : w.heap.size ≤ g) (a b : Value) : Ext w ((w2.setCell ⟨g, 0, none⟩ a).setCell ⟨g, 1, none⟩ b) := ext_grown h (grown2 w2 g a b) hg
theorem own_row2 {w : World} {B g n c : Nat} {e : TypeId} {A : Option Addr} {xs : List Value} (h : w.ownsRow B e 1 (.slice A n c) n xs) (hg : g < B) (x y : Value) : ((w.setCell ⟨g, 0, none⟩ x).setCell ⟨g, 1, none⟩ y).ownsRow g e 1 (.slice A n c) n xs :=
  own_base (h.kept (grown2 w g x y) (own_ne h hg)) (Nat.le_of_lt hg)
theorem cell_other {w : World} {p : Addr} {v : Value} {g i : Nat} {u : Value} (h : w.cell? p = some v) (hne : p.block ≠ g) : (w.setCell ⟨g, i, none⟩ u).cell? p = some v := (World.cell?_setCell_other _ _ _ _ (fun e => hne (by rw [← e]))).trans h
theorem own_not {w : World} {B n c vb : Nat} {e : TypeId} {A : Option Addr} {xs : List Value} (h : w.ownsRow B e 1 (.slice A n c) n xs) (hv : vb < B ∨ w.heap.size ≤ vb) : (Value.slice A n c).ownBlock ≠ some vb := fun e => by
  have := h.lt vb e
  omega
theorem row3 {w : World} {g : Nat} {x y z : Value} {t : TypeId} (h : w.heap[g]? = some (.cells #[x, y, z] t (0, 0))) (a b c : Value) : (((w.setCell ⟨g, 0, none⟩ a).setCell ⟨g, 1, none⟩ b).setCell ⟨g, 2, none⟩ c).heap[g]? = some (.cells #[a, b, c] t (0, 0)) := blk_set (blk_set (blk_set h 0 a) 1 b) 2 c
theorem row4 {w : World} {g : Nat} {x y z v : Value} {t : TypeId} (h : w.heap[g]? = some (.cells #[x, y, z, v] t (0, 0))) (a b c d : Value) : ((((w.setCell ⟨g, 0, none⟩ a).setCell ⟨g, 1, none⟩ b).setCell ⟨g, 2, none⟩ c).setCell ⟨g, 3, none⟩ d).heap[g]? = some (.cells #[a, b, c, d] t (0, 0)) := blk_set (blk_set (blk_set (blk_set h 0 a) 1 b) 2 c) 3 d
end

section
open Go.RowKit

/-- nothing that was there has turned, but for the blocks of S -/
structure GB (w w' : World) (S : Nat → Prop) : Prop where
  os : w'.os = w.os
  tape : w'.tape = w.tape
  output : w'.output = w.output
  size : w.heap.size ≤ w'.heap.size
  block : ∀ i, i < w.heap.size → ¬ S i → w'.heap[i]? = w.heap[i]?
theorem GB.of_ext {w w' : World} (S : Nat → Prop) (h : Ext w w') : GB w w' S := ⟨h.os, h.tape, h.output, h.size, fun i hi _ => h.block i hi⟩
theorem GB.refl (w : World) (S : Nat → Prop) : GB w w S := GB.of_ext S (Ext.refl w)
theorem GB.grown {w a b : World} {S : Nat → Prop} {row : Option Nat} (h : GB w a S) (k : a.grownBy b row) (hr : ∀ q, row = some q → S q ∨ w.heap.size ≤ q) : GB w b S :=
  ⟨k.os.trans h.os, k.tape.trans h.tape, k.output.trans h.output, Nat.le_trans h.size k.size, fun i hi hs => (k.block i (Nat.lt_of_lt_of_le hi h.size) (fun e => by
    rcases hr i e.symm with h' | h'
    · exact hs h'
    · omega)).trans (h.block i hi hs)⟩
theorem GB.ext {w a b : World} {S : Nat → Prop} (h : GB w a S) (k : Ext a b) : GB w b S := h.grown (row := none) (grown_none k none) (fun q e => by cases e)
theorem GB.alloc {w a : World} {S : Nat → Prop} (h : GB w a S) (o : Obj) : GB w (a.alloc o) S := h.ext ((Ext.refl a).alloc o)
theorem GB.drew {w a : World} {S : Nat → Prop} (h : GB w a S) : GB w a.drew S := h.ext (Ext.refl a).drew
theorem GB.set {w a : World} {S : Nat → Prop} (h : GB w a S) (g i : Nat) (u : Value) (hg : S g ∨ w.heap.size ≤ g) : GB w (a.setCell ⟨g, i, none⟩ u) S := h.grown (grown_set a g i u) (fun q e => by injection e with e; subst e; exact hg)
theorem GB.trans {w a b : World} {S S' : Nat → Prop} (h : GB w a S) (k : GB a b S') (hs : ∀ i, S' i → S i ∨ w.heap.size ≤ i) : GB w b S :=
  ⟨k.os.trans h.os, k.tape.trans h.tape, k.output.trans h.output, Nat.le_trans h.size k.size, fun i hi hn => (k.block i (Nat.lt_of_lt_of_le hi h.size) (fun e => by
    rcases hs i e with h' | h'
    · exact hn h'
    · omega)).trans (h.block i hi hn)⟩
theorem GB.back {w a b : World} {S : Nat → Prop} (h : Ext w a) (k : GB a b S) : GB w b S := ⟨k.os.trans h.os, k.tape.trans h.tape, k.output.trans h.output, Nat.le_trans h.size k.size, fun i hi hn => (k.block i (Nat.lt_of_lt_of_le hi h.size) hn).trans (h.block i hi)⟩
theorem GB.more {w a : World} {S S' : Nat → Prop} (h : GB w a S) (hs : ∀ i, i < w.heap.size → S i → S' i) : GB w a S' := ⟨h.os, h.tape, h.output, h.size, fun i hi hn => h.block i hi (fun e => hn (hs i hi e))⟩
theorem GB.cell {w a : World} {S : Nat → Prop} (h : GB w a S) {p : Addr} {v : Value} (hc : w.cell? p = some v) (hp : ¬ S p.block) : a.cell? p = some v :=
  (World.cell?_of_block (h.block p.block (World.block_lt_of_cell? w p hc) hp)).trans hc
theorem GB.blk {w a : World} {S : Nat → Prop} (h : GB w a S) {g : Nat} {o : Obj} (hc : w.heap[g]? = some o) (hp : ¬ S g) : a.heap[g]? = some o := (h.block g (blk_lt hc) hp).trans hc
theorem GB.to_ext {w0 w a : World} {S : Nat → Prop} (h : GB w a S) (k : Ext w0 w) (hs : ∀ i, S i → w0.heap.size ≤ i) : Ext w0 a :=
  ⟨h.os.trans k.os, h.tape.trans k.tape, h.output.trans k.output, Nat.le_trans k.size h.size, fun i hi => (h.block i (Nat.lt_of_lt_of_le hi k.size) (fun e => by have := hs i e; omega)).trans (k.block i hi)⟩
theorem GB.rd {w a : World} {S : Nat → Prop} {A : Option Addr} {vs : List Value} (h : GB w a S) (hr : Rd w A vs) (hs : ∀ p, A = some p → ¬ S p.block) : Rd a A vs := fun hne => by
  obtain ⟨b, off, hA, hc⟩ := hr hne
  exact ⟨b, off, hA, fun j u hu => h.cell (hc j u hu) (show ¬ S b from hs _ hA)⟩
theorem GB.own {w a : World} {S : Nat → Prop} {base : Nat} {e : TypeId} {size : Nat} {v : Value} {n : Nat} {xs : List Value} (k : GB w a S) (h : w.ownsRow base e size v n xs) (hs : ∀ q, v.ownBlock = some q → ¬ S q) : a.ownsRow base e size v n xs := by
  refine ⟨h.1, ?_⟩
  rcases h.2 with hn | ⟨g, cap, cur, rfl, hbg, hgg, rest⟩
  · exact .inl hn
  · exact .inr ⟨g, cap, cur, rfl, hbg, by rw [k.block g (Array.getElem?_eq_some_iff.1 hgg).1 (hs g rfl)]; exact hgg, rest⟩
/-- a cut from k on, wherever it stands, of elements of so many cells -/
theorem slice_from_s {P : Program} {t e : TypeId} {s : Nat} (ht : P.underlying t = some (.slice e)) (hz : ∀ u : World, (sizeOf e).run P u = .ok s u) {A : Option Addr} {n c m d : Nat} (k : Nat) {ki : Int} (hki : ki = (k : Int)) (hnc : n ≤ c) (hm : n = m + k) (hd : c = d + k) :
    ∃ A' : Option Addr, (∀ u : World, (Instr.slice t (.slice A n c) (some (.int .i64 ki)) none none).run P u = .ok (.slice A' m d) u) ∧
      (∀ (w : World) (vs : List Value), vs.length = n * s → Rd w A vs → Rd w A' (vs.drop (k * s))) ∧ (∀ a, A' = some a → ∃ a', A = some a' ∧ a'.block = a.block) ∧ (A = none → A' = none) := by
  subst hki
  have he : P.elem t = e := by simp [Program.elem, ht]
  refine ⟨if c = k then A else A.map (·.add (k * s)), fun u => ?_, fun w vs hl hr hne => ?_, fun a ha => ?_, fun ha => by subst ha; split <;> rfl⟩
  · rw [run_slice_l (P := P) u t A n c (by rw [he]; exact ht) .i64 (k : Int) (by omega) (by omega), he, hz]
    simp only [Result.andThen, sliced, Int.toNat_natCast]
    congr 2 <;> omega
  · have hvn : vs ≠ [] := by rintro rfl; simp at hne
    obtain ⟨b, off, rfl, hc⟩ := hr hvn
    have hck : ¬ c = k := by
      intro h
      apply hne
      have : m = 0 := by omega
      rw [List.drop_of_length_le (by rw [hl, hm, this, Nat.zero_add]; exact Nat.le_refl _)]
    rw [if_neg hck]
    exact ⟨b, off + k * s, by simp [Addr.add_lit], fun j u hu => by rw [Nat.add_assoc]; exact hc (k * s + j) u (by rw [← hu, List.getElem?_drop])⟩
  · split at ha
    · exact ⟨a, ha, rfl⟩
    · cases hA : A with
      | none => rw [hA] at ha; cases ha
      | some q =>
        rw [hA] at ha
        injection ha with ha
        refine ⟨q, rfl, ?_⟩
        rw [← ha]
        unfold Addr.add
        split <;> rfl
end

section
open Go.RowKit

/-- an access by its parts -/
structure AccE where
  who : Int
  kind : Int
  word : Int
  old : Nat
  new : Nat
  done : Bool
def AccE.cells (a : AccE) : List Value := [.int .i64 a.who, .int .u8 a.kind, .int .i64 a.word, .int .u64 (a.old : Int), .int .u64 (a.new : Int), .bool a.done]
def accs (L : List AccE) : List Value := L.flatMap AccE.cells
theorem accs_cons (a : AccE) (L : List AccE) : accs (a :: L) = a.cells ++ accs L := by simp [accs]
theorem accs_len (L : List AccE) : (accs L).length = L.length * 6 := by
  induction L with
  | nil => rfl
  | cons a L ih => rw [accs_cons, List.length_append, ih, List.length_cons]; simp [AccE.cells]; omega
theorem accs_app (L M : List AccE) : accs (L ++ M) = accs L ++ accs M := by simp [accs]
theorem accs_one' (a : AccE) : accs [a] = a.cells := by simp [accs]
theorem accs_drop : ∀ (k : Nat) (L : List AccE), accs (L.drop k) = (accs L).drop (k * 6)
  | 0, L => by simp
  | k + 1, [] => by simp [accs]
  | k + 1, a :: L => by
    rw [List.drop_succ_cons, accs_drop k L, accs_cons, show (k + 1) * 6 = a.cells.length + k * 6 by simp [AccE.cells]; omega, List.drop_append]
    simp
theorem accs_one (L : List AccE) : ∀ u ∈ accs L, u.oneCell' = true := by
  intro u hu
  obtain ⟨a, _, h⟩ := List.mem_flatMap.1 hu
  simp [AccE.cells] at h
  rcases h with rfl | rfl | rfl | rfl | rfl | rfl <;> rfl
end

section
open Go.RowKit

theorem info_acc : (Tryz.prog.info? 307).map (fun i => (i.zero, i.size, i.bytes)) = some (some (.agg #[.int .i64 0, .int .u8 0, .int .i64 0, .int .u64 0, .int .u64 0, .bool false]), 6, 48) := by kernel_rfl
theorem size_acc : ∀ u : World, (sizeOf 307).run Tryz.prog u = .ok 6 u := fun _ => by kernel_rfl
theorem worker_any (w : World) (a b n : Int) : Calls Tryz.prog 170 #[.int .i64 a, .int .i64 b, .int .i64 n] w fun e w' => e = .returned (.int .i64 (if 0 ≤ a ∧ a < 64 ∧ 0 ≤ b ∧ b < n then 0 else 1)) ∧ w = w' := by
  by_cases h1 : a < 0
  · rw [if_neg (by omega)]
    go_enter Tryz.func170, Tryz.ntmps170
    go_wp2
    go_ret
    exact ⟨rfl, rfl⟩
  · by_cases h2 : 64 ≤ a
    · rw [if_neg (by omega)]
      go_enter Tryz.func170, Tryz.ntmps170
      go_wp2
      go_ret
      exact ⟨rfl, rfl⟩
    · by_cases h3 : b < 0
      · rw [if_neg (by omega)]
        go_enter Tryz.func170, Tryz.ntmps170
        go_wp2
        go_ret
        exact ⟨rfl, rfl⟩
      · by_cases h4 : n ≤ b
        · rw [if_neg (by omega)]
          go_enter Tryz.func170, Tryz.ntmps170
          go_wp2
          go_ret
          exact ⟨rfl, rfl⟩
        · rw [if_pos (by omega)]
          go_enter Tryz.func170, Tryz.ntmps170
          go_wp2
          go_ret
          exact ⟨rfl, rfl⟩
/-- a machine in memory: its words, its clock, what it has done; F: its blocks -/
def MachAt (w : World) (F : Nat → Prop) (g : Nat) (ws : List Nat) (clk : Int) (L : List AccE) : Prop :=
  ∃ (gw : Nat) (B : Option Addr) (n cb k : Nat), w.heap[g]? = some (.cells #[.slice (some ⟨gw, 0, none⟩) ws.length ws.length, .int .i64 clk, .int .i64 (L.length : Int), .slice B n cb] 259 (0, 0)) ∧
    w.heap[gw]? = some (.cells (vals .u64 ws).toArray 52 (0, 0)) ∧ w.ownsRow (g + 1) 307 6 (.slice B n cb) n (accs (L.drop k)) ∧
    n + k = L.length ∧ n ≤ 128 ∧ (k = 0 ∨ 64 ≤ n) ∧ gw < g ∧ F g ∧ F gw ∧ (∀ q, (Value.slice B n cb).ownBlock = some q → F q) ∧ ∀ i, F i → i < w.heap.size
/-- a machine that went on -/
def MachGo (w : World) (F : Nat → Prop) (g : Nat) (ws : List Nat) (clk : Int) (L : List AccE) (w' : World) : Prop :=
  ∃ F', MachAt w' F' g ws clk L ∧ GB w w' F ∧ ∀ i, F' i → F i ∨ w.heap.size ≤ i
theorem MachAt.gb {w w' : World} {F S : Nat → Prop} {g : Nat} {ws : List Nat} {clk : Int} {L : List AccE} (h : MachAt w F g ws clk L) (k : GB w w' S) (hs : ∀ i, F i → ¬ S i) : MachAt w' F g ws clk L := by
  obtain ⟨gw, B, n, cb, kk, h1, h2, h3, h4, h5, h6, h7, h8, h9, h10, h11⟩ := h
  exact ⟨gw, B, n, cb, kk, k.blk h1 (hs _ h8), k.blk h2 (hs _ h9), k.own h3 (fun q e => hs _ (h10 q e)), h4, h5, h6, h7, h8, h9, h10, fun i hi => Nat.lt_of_lt_of_le (h11 i hi) k.size⟩
theorem MachAt.ext {w w' : World} {F : Nat → Prop} {g : Nat} {ws : List Nat} {clk : Int} {L : List AccE} (h : MachAt w F g ws clk L) (k : Ext w w') : MachAt w' F g ws clk L := h.gb (GB.of_ext (fun _ => False) k) (fun _ _ => id)
theorem msize_any (w : World) (F : Nat → Prop) (g : Nat) (ws : List Nat) (clk : Int) (L : List AccE) (h : MachAt w F g ws clk L) :
    Calls Tryz.prog 171 #[.pointer (some ⟨g, 0, none⟩)] w fun e w' => e = .returned (.int .i64 (ws.length : Int)) ∧ w = w' := by
  obtain ⟨gw, B, n, cb, kk, h1, _⟩ := h
  have b0 := blk_cell h1 0
  clear h1
  go_enter Tryz.func171, Tryz.ntmps171
  go_wp2
  go_ret
  exact ⟨rfl, rfl⟩
theorem own0A (w : World) : (w.alloc (.cells #[] 307)).ownsRow w.heap.size 307 6 (.slice (some ⟨w.heap.size, 0, none⟩) 0 0) 0 (accs []) := own_made w [] 307 6 0 rfl (Nat.zero_le _) (Nat.le_refl _)
/-- new memory that holds so many accesses -/
def RetA (L : List AccE) (w : World) (e : Ending) (w' : World) : Prop :=
  ∃ A c, e = .returned (.slice A L.length c) ∧ w'.ownsRow w.heap.size 307 6 (.slice A L.length c) L.length (accs L) ∧ Ext w w'
theorem nilqA (w : World) (A : Option Addr) (n c n' c' : Nat) : (binOp .eql 257 (.slice A n c) (.slice none n' c')).run Tryz.prog w = .ok (.bool A.isNone) w := Lib.run_eql_slice_nil w _ _ A n c n' c' Tryz.underlying257
/-- append of accesses onto a list of the call's own -/
theorem app_acc {ops : Array Oper} {rest : List Oper} {o : Oper} {a : Act} {Q : Exit → Act → World → Prop} (w : World) (hgd : o.guard = none) (s x : Operand)
    (ho : o.op = .call { callee := .builtin .append, args := #[s, x], argTypes := #[257, 257] })
    (base : Nat) {B : Option Addr} {n cb : Nat} {xs : List AccE} (hs : a.eval s = .slice B n cb) (hown : w.ownsRow base 307 6 (.slice B n cb) n (accs xs))
    {A : Option Addr} {m c : Nat} {news : List AccE} (hx : a.eval x = .slice A m c) (hl : news.length = m) (hr : Rd w A (accs news)) (hb : n + m ≤ 1000000000) (hbase : base ≤ w.heap.size)
    (h : ∀ B' cb' w', w'.ownsRow base 307 6 (.slice B' (n + m) cb') (n + m) (accs (xs ++ news)) → w.grownBy w' (Value.slice B n cb).ownBlock →
      ((Value.slice B' (n + m) cb').ownBlock = (Value.slice B n cb).ownBlock ∨ (Value.slice B' (n + m) cb').ownBlock = some w.heap.size) → wpList Tryz.prog ops Q rest (a.put o.dst (.slice B' (n + m) cb')) w') :
    wpList Tryz.prog ops Q (o :: rest) a w := by
  obtain ⟨i0, hi, hz0, hz1, hz2⟩ := info_parts info_acc
  refine wpList_append_rd w hgd s x 257 ho base 307 Tryz.underlying257 hi hz0 hz1 hz2 rfl (by decide) hs hown hx (by rw [accs_len, hl]) hr (accs_one _) (by unfold maxLen; omega) (by omega) hbase ?_
  intro B' cb' w' h2 h3 h4
  rw [← accs_app] at h2
  exact h B' cb' w' h2 h3 h4
set_option maxHeartbeats 400000 in
theorem cloneA_any (A : Option Addr) (n c : Nat) (L : List AccE) (w : World) (hl : L.length = n) (hn : n ≤ 1000000) (hr : Rd w A (accs L)) :
    Calls Tryz.prog 229 #[.slice A n c] w (RetA L w) := by
  have Hl := Lib.hid hl
  have Hr := Lib.hid hr
  have q := nilqA
  cases A with
  | none =>
    have h0 : L = [] := by
      cases L with
      | nil => rfl
      | cons a L =>
        obtain ⟨b, off, hA, _⟩ := hr (by rw [accs_cons]; simp [AccE.cells])
        cases hA
    subst h0
    clear hl hr
    obtain rfl : n = 0 := by have := Hl.out; simpa using this.symm
    go_enter Tryz.func229, Tryz.ntmps229
    go_wp2
    go_ret
    exact ⟨none, 0, rfl, World.ownsRow_nil _ _ _ _, Ext.refl w⟩
  | some a =>
    clear hl hr
    go_enter Tryz.func229, Tryz.ntmps229
    go_wp2_with (at_builtin; refine app_acc _ rfl (.tmp 5) (.tmp 6) rfl w.heap.size rfl (own0A w) rfl Hl.out (Hr.out.alloc _) (by omega) (by simp) ?_; intro A' c' w1 hown hgrow _; simp only [Nat.zero_add, List.nil_append] at hown)
    go_ret
    rw [← Hl.out] at hown ⊢
    exact ⟨A', c', rfl, hown, ((Ext.refl w).alloc _).grown hgrow (by simp [Value.ownBlock])⟩
/-- the same, the number told -/
def RetAn (n : Nat) (L : List AccE) (w : World) (e : Ending) (w' : World) : Prop :=
  ∃ A c, e = .returned (.slice A n c) ∧ w'.ownsRow w.heap.size 307 6 (.slice A n c) n (accs L) ∧ Ext w w'
theorem cloneA_n (A : Option Addr) (n c : Nat) (L : List AccE) (w : World) (hl : L.length = n) (hn : n ≤ 1000000) (hr : Rd w A (accs L)) :
    Calls Tryz.prog 229 #[.slice A n c] w (RetAn n L w) := by
  refine (cloneA_any A n c L w hl hn hr).mono ?_
  rintro e w' ⟨A', c', rfl, h1, h2⟩
  rw [hl] at h1 ⊢
  exact ⟨A', c', rfl, h1, h2⟩
end

section
open Go.RowKit

theorem mach_mk {w W : World} {F : Nat → Prop} {g gw n cb k : Nat} {ws : List Nat} {clk : Int} {L : List AccE} {B : Option Addr} (h : GB w W F)
    (h1 : W.heap[g]? = some (.cells #[.slice (some ⟨gw, 0, none⟩) ws.length ws.length, .int .i64 clk, .int .i64 (L.length : Int), .slice B n cb] 259 (0, 0)))
    (h2 : W.heap[gw]? = some (.cells (vals .u64 ws).toArray 52 (0, 0))) (h3 : W.ownsRow (g + 1) 307 6 (.slice B n cb) n (accs (L.drop k)))
    (h4 : n + k = L.length) (h5 : n ≤ 128) (h6 : k = 0 ∨ 64 ≤ n) (h7 : gw < g) (h8 : F g) (h9 : F gw) (h10 : ∀ q, (Value.slice B n cb).ownBlock = some q → F q ∨ w.heap.size ≤ q) (h11 : ∀ i, F i → i < w.heap.size) : MachGo w F g ws clk L W := by
  refine ⟨fun i => F i ∨ (Value.slice B n cb).ownBlock = some i, ⟨gw, B, n, cb, k, h1, h2, h3, h4, h5, h6, h7, .inl h8, .inl h9, fun q e => .inr e, fun i hi => ?_⟩, h, fun i hi => ?_⟩
  · rcases hi with hi | hi
    · exact Nat.lt_of_lt_of_le (h11 i hi) h.size
    · exact (h3.lt i hi).2
  · rcases hi with hi | hi
    · exact .inl hi
    · exact h10 i hi
theorem ext_size {w w' : World} (h : Ext w w') : w.heap.size ≤ w'.heap.size := h.size
theorem rdD {w : World} {A : Option Addr} {vs : List Value} (h : Rd w A vs) : Rd w.drew A vs := h
theorem step_app_acc {ops : Array Oper} {o : Oper} {a : Act} {K : Act → World → Prop} {Q : Exit → Act → World → Prop} {E : Prop} (w : World) (hgd : o.guard = none) (s x : Operand)
    (ho : o.op = .call { callee := .builtin .append, args := #[s, x], argTypes := #[257, 257] })
    (base : Nat) {B : Option Addr} {n cb : Nat} {xs : List AccE} (hs : a.eval s = .slice B n cb) (hown : w.ownsRow base 307 6 (.slice B n cb) n (accs xs))
    {A : Option Addr} {c : Nat} (y : AccE) (hx : a.eval x = .slice A 1 c) (hr : Rd w A y.cells) (hb : n ≤ 1000) (hbase : base ≤ w.heap.size)
    (h : ∀ B' cb' w', w'.ownsRow base 307 6 (.slice B' (n + 1) cb') (n + 1) (accs (xs ++ [y])) → w.grownBy w' (Value.slice B n cb).ownBlock →
      ((Value.slice B' (n + 1) cb').ownBlock = (Value.slice B n cb).ownBlock ∨ (Value.slice B' (n + 1) cb').ownBlock = some w.heap.size) → K (a.put o.dst (.slice B' (n + 1) cb')) w') :
    if Region.wanted o (yielded ops a.tmps) = true then Oper.wp Tryz.prog o a w K Q else E := by
  have hw : Region.wanted o (yielded ops a.tmps) = true := by simp [Region.wanted, hgd]
  rw [if_pos hw]
  obtain ⟨i0, hi, hz0, hz1, hz2⟩ := info_parts info_acc
  exact wp_append_rd w s x 257 ho base 307 Tryz.underlying257 hi hz0 hz1 hz2 rfl (by decide) hs hown hx (m := 1) (news := y.cells) rfl hr (by rw [← accs_one']; exact accs_one _) (by unfold maxLen; omega) (by omega) hbase
    fun B' cb' w' h2 h3 h4 => h B' cb' w' (by rw [accs_app, accs_one']; exact h2) h3 h4
set_option maxHeartbeats 2000000 in
set_option maxRecDepth 100000 in
theorem note_any (w : World) (F : Nat → Prop) (g : Nat) (ws : List Nat) (clk : Int) (L : List AccE) (a : AccE) (h : MachAt w F g ws clk L) (hL : L.length ≤ 1000000) :
    Calls Tryz.prog 172 #[.pointer (some ⟨g, 0, none⟩), .agg #[.int .i64 a.who, .int .u8 a.kind, .int .i64 a.word, .int .u64 (a.old : Int), .int .u64 (a.new : Int), .bool a.done]] w fun e w' => e = .returned (.tuple #[]) ∧ MachGo w F g ws clk (L ++ [a]) w' := by
  obtain ⟨gw, B, n, cb, k, h1, h2, h3, h4, h5, h6, h7, h8, h9, h10, h11⟩ := h
  have hwrap : IntKind.i64.wrap ((L.length : Int) + 1) = ((L.length : Int) + 1) := by rw [IntKind.wrap_i64]; omega
  have H1 := Lib.hid h1
  have b2 : (w.alloc (.cells #[.int .i64 a.who, .int .u8 a.kind, .int .i64 a.word, .int .u64 (a.old : Int), .int .u64 (a.new : Int), .bool a.done] 307 (0, 0))).cell? ⟨g, 2, none⟩ = some (.int .i64 (L.length : Int)) := cell_past (blk_cell h1 2) _
  have f2 := fz_past h1 2 (.cells #[.int .i64 a.who, .int .u8 a.kind, .int .i64 a.word, .int .u64 (a.old : Int), .int .u64 (a.new : Int), .bool a.done] 307 (0, 0))
  have H4 := Lib.hid h4
  clear h1 h4
  have hgs : g < w.heap.size := blk_lt H1.out
  obtain ⟨W, hW⟩ : ∃ W, Hid ((w.setCell ⟨g, 2, none⟩ (.int .i64 ((L.length : Int) + 1))).alloc (.cells #[.int .i64 a.who, .int .u8 a.kind, .int .i64 a.word, .int .u64 (a.old : Int), .int .u64 (a.new : Int), .bool a.done] 307 (0, 0)) = W) := ⟨_, rfl⟩
  have G0 : GB w W F := by rw [← hW.out]; exact ((GB.refl w F).set g 2 _ (.inl h8)).alloc _
  have HG := Lib.hid (show W.heap[g]? = some (.cells #[.slice (some ⟨gw, 0, none⟩) ws.length ws.length, .int .i64 clk, .int .i64 ((L.length : Int) + 1), .slice B n cb] 259 (0, 0)) by rw [← hW.out]; exact blk_past (blk_set H1.out 2 _) _)
  have HB := Lib.hid (show W.heap[w.heap.size]? = some (.cells #[.int .i64 a.who, .int .u8 a.kind, .int .i64 a.word, .int .u64 (a.old : Int), .int .u64 (a.new : Int), .bool a.done] 307 (0, 0)) by rw [← hW.out]; exact blk_newk _ _ (by simp))
  have HW2 := Lib.hid (show W.heap[gw]? = some (.cells (vals .u64 ws).toArray 52 (0, 0)) by rw [← hW.out]; exact blk_past (blk_grown h2 (grown_set _ g 2 _) (by omega)) _)
  have hob : ∀ q, (Value.slice B n cb).ownBlock = some q → q ≠ g ∧ q ≠ gw ∧ q < w.heap.size := fun q e => by have := h3.lt q e; omega
  have HO := Lib.hid (show W.ownsRow (g + 1) 307 6 (.slice B n cb) n (accs (L.drop k)) by
    rw [← hW.out]
    exact own_ext (h3.kept (grown_set _ g 2 _) (by
      cases hq : (Value.slice B n cb).ownBlock with
      | none => exact .inl rfl
      | some q => exact .inr fun e => by injection e with e; exact (hob q hq).1 e)) ((Ext.refl _).alloc _))
  have hsW : w.heap.size < W.heap.size := blk_lt HB.out
  clear h2 h3
  go_enter Tryz.func172, Tryz.ntmps172
  go_upto_region 2 with fail
  rw [hW.out]
  clear hW b2 f2 hwrap
  have c3 : W.cell? ⟨g, 3, none⟩ = some (.slice B n cb) := blk_cell HG.out 3
  have a0 : W.cell? ⟨w.heap.size, 0, none⟩ = some (.int .i64 a.who) := blk_cell HB.out 0
  have a1 : W.cell? ⟨w.heap.size, 1, none⟩ = some (.int .u8 a.kind) := blk_cell HB.out 1
  have a2 : W.cell? ⟨w.heap.size, 2, none⟩ = some (.int .i64 a.word) := blk_cell HB.out 2
  have a3 : W.cell? ⟨w.heap.size, 3, none⟩ = some (.int .u64 (a.old : Int)) := blk_cell HB.out 3
  have a4 : W.cell? ⟨w.heap.size, 4, none⟩ = some (.int .u64 (a.new : Int)) := blk_cell HB.out 4
  have a5 : W.cell? ⟨w.heap.size, 5, none⟩ = some (.bool a.done) := blk_cell HB.out 5
  have f3 : W.frozen? ⟨g, 3, none⟩ = false := blk_frozen HG.out 3
  have hn1000 : n ≤ 1000 := by omega
  have hgW : g + 1 ≤ W.heap.size := by omega
  have hng : ¬ (Value.slice B n cb).ownBlock = some g := fun e => (hob _ e).1 rfl
  have hnw : ¬ (Value.slice B n cb).ownBlock = some gw := fun e => (hob _ e).2.1 rfl
  have hnb : ¬ (Value.slice B n cb).ownBlock = some w.heap.size := fun e => Nat.lt_irrefl _ (hob _ e).2.2
  have c3' := cell_past c3 (.cells #[.int .i64 a.who, .int .u8 a.kind, .int .i64 a.word, .int .u64 (a.old : Int), .int .u64 (a.new : Int), .bool a.done] 307 (0, 0))
  have H10 := Lib.hid h10
  go_cut [] (fun wd => ∃ B' cb', GB w wd F ∧ wd.heap[g]? = some (.cells #[.slice (some ⟨gw, 0, none⟩) ws.length ws.length, .int .i64 clk, .int .i64 ((L.length : Int) + 1), .slice B' (n + 1) cb'] 259 (0, 0)) ∧
    wd.heap[gw]? = some (.cells (vals .u64 ws).toArray 52 (0, 0)) ∧ wd.ownsRow (g + 1) 307 6 (.slice B' (n + 1) cb') (n + 1) (accs ((L ++ [a]).drop k)) ∧ ∀ q, (Value.slice B' (n + 1) cb').ownBlock = some q → F q ∨ w.heap.size ≤ q)
  case first =>
    go_region_law
      ((refine step_app_acc (W.alloc (.cells #[.int .i64 a.who, .int .u8 a.kind, .int .i64 a.word, .int .u64 (a.old : Int), .int .u64 (a.new : Int), .bool a.done] 307)).drew rfl (.tmp 15) (.tmp 17) rfl (g + 1) (by rfl) (own_ext HO.out ((Ext.refl W).alloc _).drew) a (by rfl) (rdD (rd_newk W a.cells _ rfl)) hn1000 (Nat.le_trans hgW (ext_size ((Ext.refl W).alloc _).drew)) ?_; intro B' cb' w6 o6 g6 b6; have G6 : GB w w6 F := (G0.alloc _).drew.grown g6 (fun q e => .inl (h10 q e)); have GW : GB W w6 (fun i => (Value.slice B n cb).ownBlock = some i) := ((GB.refl W _).alloc _).drew.grown g6 (fun q e => .inl e); have s3 := GW.cell c3 hng; have s0 := GW.cell a0 hnb; have s1 := GW.cell a1 hnb; have s2 := GW.cell a2 hnb; have s4 := GW.cell a3 hnb; have s5 := GW.cell a4 hnb; have s6 := GW.cell a5 hnb; have u3 := GW.blk HG.out hng; have uw := GW.blk HW2.out hnw; have f6 := blk_frozen u3 3; have HU3 := Lib.hid u3; have HUW := Lib.hid uw; clear u3 uw))
    all_goals
      go_wp2_with fail
      go_meet
      refine ⟨B', cb', G6.set g 3 _ (.inl h8), blk_set HU3.out 3 _, blk_grown HUW.out (grown_set _ g 3 _) (by omega), ?_, fun q e => ?_⟩
      · rw [List.drop_append_of_le_length (by have := H4.out; omega)]
        refine o6.kept (grown_set _ g 3 _) ?_
        cases hq : (Value.slice B' (n + 1) cb').ownBlock with
        | none => exact .inl rfl
        | some q => exact .inr fun e => by injection e with e; have := (o6.lt q hq).1; omega
      · rw [e] at b6
        rcases b6 with b6 | b6
        · exact .inl (H10.out q b6.symm)
        · injection b6 with b6
          rw [b6]
          exact .inr (Nat.le_of_lt (Nat.lt_of_lt_of_le hsW (ext_size ((Ext.refl W).alloc _).drew)))
  case rest =>
    obtain ⟨B', cb', G7, u1, u2, u3, u4⟩ := hcut
    have c3 : wc.cell? ⟨g, 3, none⟩ = some (.slice B' (n + 1) cb') := blk_cell u1 3
    have f3 := blk_frozen u1 3
    have hlen : ((L ++ [a]).length : Int) = (L.length : Int) + 1 := by simp
    have U1 := Lib.hid u1; have U2 := Lib.hid u2; have U3 := Lib.hid u3; have U4 := Lib.hid u4
    clear u1 u2 u3 u4
    by_cases hb : n + 1 ≤ 128
    · go_wp2_with fail
      go_end0
      exact ⟨rfl, mach_mk G7 (by rw [hlen]; exact U1.out) U2.out U3.out (by simp; have := H4.out; omega) hb (by rcases h6 with h6 | h6 <;> omega) h7 h8 h9 U4.out h11⟩
    · obtain rfl : n = 128 := by omega
      have hcap : 129 ≤ cb' := own_cap U3.out
      obtain ⟨A', hsl, hrd, hblk, _⟩ := slice_from_s Tryz.underlying257 size_acc (A := B') (n := 129) (c := cb') (m := 64) (d := cb' - 65) 65 (ki := 65) rfl hcap rfl (by omega)
      have hr0 : Rd wc B' (accs ((L ++ [a]).drop k)) := by
        intro hne
        obtain ⟨q, rfl, _, _⟩ := own_block U3.out (by omega)
        exact ⟨q, 0, rfl, fun j u hu => by rw [Nat.zero_add, U3.out.cellAt j (by have := (List.getElem?_eq_some_iff.1 hu).1; have := U3.out.1; omega)]; exact hu⟩
      have hr1 : Rd wc A' (accs ((L ++ [a]).drop (65 + k))) := by
        have := hrd wc _ U3.out.1 hr0
        rwa [← accs_drop, List.drop_drop, Nat.add_comm k] at this
      have hl1 : ((L ++ [a]).drop (65 + k)).length = 64 := by have := H4.out; simp; omega
      have CL := Lib.hid (cloneA_n A' 64 (cb' - 65) _ wc.drew hl1 (by omega) hr1)
      have Hl1 := Lib.hid hl1
      have hw65 : IntKind.i64.wrap 65 = 65 := by decide
      clear hr0 hr1 hrd hl1 hblk
      go_upto_region 4 with fail
      go_region_with (go_at_call 229; go_must (refine CL.out.mono ?_); go_must (rintro e w8 ⟨A8, c8, rfl, o8, x8⟩); go_must (have f8 := blk_frozen (blk_ext U1.out ((Ext.refl wc).drew.trans x8)) 3); go_must (have k8 : w8.cell? ⟨g, 3, none⟩ = some (.slice B' 129 cb') := blk_cell (blk_ext U1.out ((Ext.refl wc).drew.trans x8)) 3))
      all_goals
        go_wp2_with fail
        go_end0
        have x8' : Ext wc w8 := (Ext.refl wc).drew.trans x8
        have hgu : g < wc.heap.size := blk_lt U1.out
        refine ⟨rfl, mach_mk (k := 65 + k) ((G7.ext x8').set g 3 _ (.inl h8)) (by rw [hlen]; exact blk_set (blk_ext U1.out x8') 3 _) (blk_grown (blk_ext U2.out x8') (grown_set _ g 3 _) (by omega)) ?_ (by simp; have := H4.out; omega) (by omega) (.inr (by omega)) h7 h8 h9 (fun q e => .inr ?_) h11⟩
        · refine (own_base o8 (Nat.le_trans hgu (Nat.le_refl _))).kept (grown_set _ g 3 _) ?_
          cases hq : (Value.slice A8 64 c8).ownBlock with
          | none => exact .inl rfl
          | some q => exact .inr fun e => by injection e with e; have h1 := (o8.lt q hq).1; have h2 : wc.drew.heap.size = wc.heap.size := rfl; omega
        · have h1 := (o8.lt q e).1
          have h2 : wc.drew.heap.size = wc.heap.size := rfl
          have h3 := G7.size
          omega
end

section
open Go.RowKit

theorem info_u64' : (Tryz.prog.info? 52).map (fun i => (i.zero, i.size, i.bytes)) = some (some (.int .u64 0), 1, 8) := by kernel_rfl
theorem made_u64 (n : Nat) (t : TypeId) : (.cells (madeCells #[.int .u64 0] n) t : Obj) = .cells (vals .u64 (List.replicate n 0)).toArray t (0, 0) := by
  congr 1
  apply Array.ext'
  rw [toList_madeCells_one]
  simp [vals]
/-- a new machine -/
def MachNew (n : Nat) (w : World) (e : Ending) (w' : World) : Prop :=
  ∃ g F, e = .returned (.tuple #[.pointer (some ⟨g, 0, none⟩), .int .i64 0]) ∧ MachAt w' F g (List.replicate n 0) 0 [] ∧ Ext w w' ∧ (∀ i, F i → w.heap.size ≤ i) ∧ w.heap.size ≤ g
theorem mnew_ok (n : Nat) (w : World) (h1 : 1 ≤ n) (h2 : n ≤ 4096) : Calls Tryz.prog 124 #[.int .i64 (n : Int)] w (MachNew n w) := by
  have a1 : ¬ (n : Int) < 1 := by omega
  have a2 : ¬ 4096 < (n : Int) := by omega
  have hmk := run_make_row' (P := Tryz.prog) 200 52 (.int .u64 0) 8 Tryz.underlying200 info_u64' rfl .i64 .i64 n (by omega) (by omega)
  go_enter Tryz.func124, Tryz.ntmps124
  go_wp2_with fail
  go_ret2
  refine ⟨w.heap.size + 1, fun i => i = w.heap.size ∨ i = w.heap.size + 1, rfl, ⟨w.heap.size, none, 0, 0, 0, ?_, ?_, World.ownsRow_nil _ _ _ _, rfl, by omega, .inl rfl, by omega, .inr rfl, .inl rfl, fun q e => (by cases e), fun i hi => ?_⟩, ?_, fun i hi => by omega, by omega⟩
  · rw [List.length_replicate]
    exact blk_newk _ _ (by simp)
  · exact (blk_past (blk_new w _) _).trans (by rw [made_u64])
  · simp; omega
  · exact ((Ext.refl w).alloc _).alloc _
theorem worker_ok (w : World) (a b n : Int) (h1 : 0 ≤ a) (h2 : a < 64) (h3 : 0 ≤ b) (h4 : b < n) : Calls Tryz.prog 170 #[.int .i64 a, .int .i64 b, .int .i64 n] w fun e w' => e = .returned (.int .i64 0) ∧ w = w' := by
  have := worker_any w a b n
  rwa [if_pos ⟨h1, h2, h3, h4⟩] at this
theorem MachAt.word {w : World} {F : Nat → Prop} {g : Nat} {ws : List Nat} {clk : Int} {L : List AccE} (h : MachAt w F g ws clk L) {i x : Nat} (hx : ws[i]? = some x) :
    ∃ gw, w.cell? ⟨g, 0, none⟩ = some (.slice (some ⟨gw, 0, none⟩) ws.length ws.length) ∧ w.cell? ⟨gw, i, none⟩ = some (.int .u64 (x : Int)) ∧ w.frozen? ⟨gw, i, none⟩ = false ∧
      ∀ y : Nat, MachAt (w.setCell ⟨gw, i, none⟩ (.int .u64 (y : Int))) F g (ws.set i y) clk L ∧ GB w (w.setCell ⟨gw, i, none⟩ (.int .u64 (y : Int))) F := by
  obtain ⟨gw, B, n, cb, kk, h1, h2, h3, h4, h5, h6, h7, h8, h9, h10, h11⟩ := h
  refine ⟨gw, blk_cell h1 0, (blk_cell h2 i).trans (by simpa using vals_get hx), blk_frozen h2 i, fun y => ⟨⟨gw, B, n, cb, kk, ?_, ?_, ?_, h4, h5, h6, h7, h8, h9, h10, fun i hi => by simpa using h11 i hi⟩, (GB.refl w F).set gw i _ (.inl h9)⟩⟩
  · rw [List.length_set]
    exact blk_grown h1 (grown_set w gw i _) (by omega)
  · refine (blk_set h2 i _).trans ?_
    rw [vals_set]
    simp
  · refine h3.kept (grown_set w gw i _) ?_
    cases hq : (Value.slice B n cb).ownBlock with
    | none => exact .inl rfl
    | some q => exact .inr fun e => by injection e with e; have := (h3.lt q hq).1; omega
theorem MachGo.back {w W w' : World} {F F1 : Nat → Prop} {g : Nat} {ws : List Nat} {clk : Int} {L : List AccE} (h : GB w W F) (hf : ∀ i, F1 i → F i ∨ w.heap.size ≤ i) (k : MachGo W F1 g ws clk L w') : MachGo w F g ws clk L w' := by
  obtain ⟨F', k1, k2, k3⟩ := k
  refine ⟨F', k1, h.trans k2 hf, fun i hi => ?_⟩
  rcases k3 i hi with k3 | k3
  · exact hf i k3
  · exact .inr (Nat.le_trans h.size k3)
theorem load_ok (w : World) (F : Nat → Prop) (g : Nat) (ws : List Nat) (clk : Int) (L : List AccE) (who : Int) (i x : Nat) (h : MachAt w F g ws clk L) (hL : L.length ≤ 1000000) (h1 : 0 ≤ who) (h2 : who < 64) (hx : ws[i]? = some x) :
    Calls Tryz.prog 230 #[.pointer (some ⟨g, 0, none⟩), .int .i64 who, .int .i64 (i : Int)] w fun e w' => e = .returned (.tuple #[.int .u64 (x : Int), .int .i64 0]) ∧ MachGo w F g ws clk (L ++ [⟨who, 1, i, x, 0, true⟩]) w' := by
  obtain ⟨gw, b0, bx, _, _⟩ := h.word hx
  have hi : i < ws.length := (List.getElem?_eq_some_iff.1 hx).1
  have H := Lib.hid h
  have Hx := Lib.hid hx
  clear h hx
  go_enter Tryz.func230, Tryz.ntmps230
  go_wp2_with fail
  refine (msize_any w F g ws clk L H.out).mono ?_
  rintro e w1 ⟨rfl, rfl⟩
  go_wp2_with fail
  refine (worker_ok w who i ws.length h1 h2 (by omega) (by omega)).mono ?_
  rintro e w1 ⟨rfl, rfl⟩
  go_wp2_with fail
  refine (note_any w F g ws clk L ⟨who, 1, i, x, 0, true⟩ H.out hL).mono ?_
  rintro e w1 ⟨rfl, hm⟩
  go_wp2_with fail
  go_ret2
  exact ⟨rfl, hm⟩
theorem swap_hit (w : World) (F : Nat → Prop) (g : Nat) (ws : List Nat) (clk : Int) (L : List AccE) (who : Int) (i x new : Nat) (h : MachAt w F g ws clk L) (hL : L.length ≤ 1000000) (h1 : 0 ≤ who) (h2 : who < 64) (hx : ws[i]? = some x) :
    Calls Tryz.prog 125 #[.pointer (some ⟨g, 0, none⟩), .int .i64 who, .int .i64 (i : Int), .int .u64 (x : Int), .int .u64 (new : Int)] w fun e w' => e = .returned (.tuple #[.bool true, .int .i64 0]) ∧ MachGo w F g (ws.set i new) clk (L ++ [⟨who, 2, i, x, new, true⟩]) w' := by
  obtain ⟨gw, b0, bx, bf, hst⟩ := h.word hx
  obtain ⟨m2, g2⟩ := hst new
  have hi : i < ws.length := (List.getElem?_eq_some_iff.1 hx).1
  have H := Lib.hid h; have M2 := Lib.hid m2
  have Hx := Lib.hid hx
  clear h hx m2 hst
  go_enter Tryz.func125, Tryz.ntmps125
  go_wp2_with fail
  refine (msize_any w F g ws clk L H.out).mono ?_
  rintro e w1 ⟨rfl, rfl⟩
  go_wp2_with fail
  refine (worker_ok w who i ws.length h1 h2 (by omega) (by omega)).mono ?_
  rintro e w1 ⟨rfl, rfl⟩
  go_wp2_with fail
  refine (note_any _ F g (ws.set i new) clk L ⟨who, 2, i, x, new, true⟩ M2.out hL).mono ?_
  rintro e w1 ⟨rfl, hm⟩
  go_wp2_with fail
  go_ret2
  exact ⟨rfl, hm.back g2 (fun i hi => .inl hi)⟩
theorem word_ok (w : World) (F : Nat → Prop) (g : Nat) (ws : List Nat) (clk : Int) (L : List AccE) (i x : Nat) (h : MachAt w F g ws clk L) (hx : ws[i]? = some x) :
    Calls Tryz.prog 217 #[.pointer (some ⟨g, 0, none⟩), .int .i64 (i : Int)] w fun e w' => e = .returned (.tuple #[.int .u64 (x : Int), .int .i64 0]) ∧ w = w' := by
  obtain ⟨gw, b0, bx, _, _⟩ := h.word hx
  have hi : i < ws.length := (List.getElem?_eq_some_iff.1 hx).1
  have H := Lib.hid h
  have Hx := Lib.hid hx
  clear h hx
  go_enter Tryz.func217, Tryz.ntmps217
  go_wp2_with fail
  refine (msize_any w F g ws clk L H.out).mono ?_
  rintro e w1 ⟨rfl, rfl⟩
  go_wp2_with fail
  refine (worker_ok w 0 i ws.length (by omega) (by omega) (by omega) (by omega)).mono ?_
  rintro e w1 ⟨rfl, rfl⟩
  go_wp2_with fail
  go_ret2
  exact ⟨rfl, rfl⟩
end

section
open Go.RowKit

theorem results_tmp_cell {fn : Func} {p u : Tmp} {ty : TypeId} (h : fn.results = #[.tmp u, .cell p ty]) (tmps : Array Value) (P : Program) (w : World) :
    (results fn tmps).run P w = ((asAddr (tmps.getD p undef)).run P w).andThen fun a w => ((loadVar ty a).run P w).andThen fun v w => .ok (.tuple #[tmps.getD u undef, v]) w := by
  simp [results, h, Result.andThen]
theorem results_tmp_row {P : Program} {fn : Func} {p u : Tmp} {ty : TypeId} (h : fn.results = #[.tmp u, .cell p ty]) (tmps : Array Value) (w : World) (g : Nat) (t : TypeId) (cs : Array Value) (fr : Nat × Nat) (d : TypeDesc)
    (hp : tmps.getD p undef = .pointer (some ⟨g, 0, none⟩)) (hg : w.heap[g]? = some (.cells cs t fr))
    (hu : P.underlying ty = some d) (hd : (match d with | .struct _ | .array _ _ => true | _ => false) = true) (hi : (P.info? ty).map (·.size) = some cs.size) :
    (results fn tmps).run P w = .ok (.tuple #[tmps.getD u undef, .agg cs]) w := by
  rw [results_tmp_cell h, hp]
  simp [asAddr, run_loadVar_row w g t ty cs fr d hg hu hd hi, Result.andThen]
theorem hmfC : ∀ (fn : Fn) (first cap : Array Value) (w : World), (Instr.makeFunc fn first cap).run Tryz.prog w = .ok (.func fn first cap) w := fun _ _ _ _ => rfl
theorem MachAt.lt {w : World} {F : Nat → Prop} {g : Nat} {ws : List Nat} {clk : Int} {L : List AccE} (h : MachAt w F g ws clk L) : ∀ i, F i → i < w.heap.size := by
  obtain ⟨_, _, _, _, _, _, _, _, _, _, _, _, _, _, _, hlt⟩ := h
  exact hlt
theorem cell_off {w : World} {g i j : Nat} {v u : Value} (h : w.cell? ⟨g, i, none⟩ = some v) (hne : i ≠ j) : (w.setCell ⟨g, j, none⟩ u).cell? ⟨g, i, none⟩ = some v := (World.cell?_setCell_other _ _ _ _ (by intro e; apply hne; have h := congrArg Addr.off e; simp at h; omega)).trans h
theorem frz_ext {w w' : World} {p : Addr} {v : Value} (x : Ext w w') (h : w.cell? p = some v) (hf : w.frozen? p = false) : w'.frozen? p = false := (x.frozen (World.block_lt_of_cell? w p h)).trans hf
end

section
open Go.RowKit

/-- rows of so many cells an element, whatever is known of each one -/
theorem zipG_len {α β : Type} (f : β → α → List Value) (s : Nat) (hf : ∀ k x, (f k x).length = s) : ∀ (ks : List β) (l : List α), ks.length = l.length → ((ks.zip l).flatMap fun p => f p.1 p.2).length = l.length * s
  | [], [], _ => by simp
  | [], _ :: _, h => by cases h
  | _ :: _, [], h => by cases h
  | k :: ks, x :: l, h => by
    have := zipG_len f s hf ks l (by simpa using h)
    rw [List.zip_cons_cons, List.flatMap_cons, List.length_append, this, hf, List.length_cons, Nat.add_mul, Nat.one_mul, Nat.add_comm]
theorem zipG_get {α β : Type} (f : β → α → List Value) (s : Nat) (hf : ∀ k x, (f k x).length = s) : ∀ (ks : List β) (l : List α) (i j : Nat) (k : β) (x : α), ks[i]? = some k → l[i]? = some x → j < s → ((ks.zip l).flatMap fun p => f p.1 p.2)[i * s + j]? = (f k x)[j]?
  | [], _, _, _, _, _, h, _, _ => by simp at h
  | _ :: _, [], _, _, _, _, _, h, _ => by simp at h
  | k0 :: ks, x0 :: l, 0, j, k, x, h1, h2, hj => by
    simp at h1 h2
    subst h1 h2
    rw [List.zip_cons_cons, List.flatMap_cons, Nat.zero_mul, Nat.zero_add, List.getElem?_append_left (by rw [hf]; exact hj)]
  | k0 :: ks, x0 :: l, i + 1, j, k, x, h1, h2, hj => by
    have := zipG_get f s hf ks l i j k x (by simpa using h1) (by simpa using h2) hj
    rw [List.zip_cons_cons, List.flatMap_cons, List.getElem?_append_right (by rw [hf, Nat.add_mul, Nat.one_mul]; omega), hf, show (i + 1) * s + j - s = i * s + j by rw [Nat.add_mul, Nat.one_mul]; omega]
    exact this
theorem zipG_take {α β : Type} (f : β → α → List Value) (s : Nat) (hf : ∀ k x, (f k x).length = s) : ∀ (ks : List β) (l : List α) (n : Nat), ks.length = l.length → (((ks.take n).zip (l.take n)).flatMap fun p => f p.1 p.2) = ((ks.zip l).flatMap fun p => f p.1 p.2).take (n * s)
  | [], [], n, _ => by simp
  | [], _ :: _, _, h => by cases h
  | _ :: _, [], _, h => by cases h
  | k :: ks, e :: l, 0, _ => by simp
  | k :: ks, e :: l, n + 1, h => by
    have ih := zipG_take f s hf ks l n (by simpa using h)
    rw [List.take_succ_cons, List.take_succ_cons, List.zip_cons_cons, List.flatMap_cons, List.zip_cons_cons, List.flatMap_cons, ih, Nat.add_mul, Nat.one_mul, Nat.add_comm, List.take_append, hf, show List.take (s + n * s) (f (k, e).1 (k, e).2) = f (k, e).1 (k, e).2 from List.take_of_length_le (by rw [hf]; omega), Nat.add_sub_cancel_left]
theorem zipG_drop {α β : Type} (f : β → α → List Value) (s : Nat) (hf : ∀ k x, (f k x).length = s) : ∀ (ks : List β) (l : List α) (n : Nat), ks.length = l.length → (((ks.drop n).zip (l.drop n)).flatMap fun p => f p.1 p.2) = ((ks.zip l).flatMap fun p => f p.1 p.2).drop (n * s)
  | [], [], n, _ => by simp
  | [], _ :: _, _, h => by cases h
  | _ :: _, [], _, h => by cases h
  | k :: ks, e :: l, 0, _ => by simp
  | k :: ks, e :: l, n + 1, h => by
    have ih := zipG_drop f s hf ks l n (by simpa using h)
    rw [List.drop_succ_cons, List.drop_succ_cons, List.zip_cons_cons, List.flatMap_cons, ih, Nat.add_mul, Nat.one_mul, Nat.add_comm, List.drop_append, hf, show List.drop (s + n * s) (f (k, e).1 (k, e).2) = [] from List.drop_of_length_le (by rw [hf]; omega), List.nil_append, Nat.add_sub_cancel_left]
theorem zipG_app {α β : Type} (f : β → α → List Value) {ks ks' : List β} {l l' : List α} (h : ks.length = l.length) : (((ks ++ ks').zip (l ++ l')).flatMap fun p => f p.1 p.2) = ((ks.zip l).flatMap fun p => f p.1 p.2) ++ ((ks'.zip l').flatMap fun p => f p.1 p.2) := by
  rw [List.zip_append h, List.flatMap_append]
theorem zipG_one {α β : Type} (f : β → α → List Value) (hf : ∀ k x, ∀ v ∈ f k x, v.oneCell' = true) (ks : List β) (l : List α) : ∀ v ∈ ((ks.zip l).flatMap fun p => f p.1 p.2), v.oneCell' = true := fun v hv => by
  obtain ⟨p, _, hp⟩ := List.mem_flatMap.1 hv
  exact hf _ _ v hp
/-- where a cell's key and its serials lie -/
structure CRef where
  K : Option Addr
  kc : Nat
  H : Option Addr
  hc : Nat
def cellV (r : CRef) (c : PCell) : List Value := [.int .i64 (c.pol : Int), .slice r.K c.key.length r.kc, .int .i64 c.tat, .slice r.H c.held.length r.hc]
theorem cellV_len (r : CRef) (c : PCell) : (cellV r c).length = 4 := rfl
theorem cellV_one (r : CRef) (c : PCell) : ∀ v ∈ cellV r c, v.oneCell' = true := fun v hv => by
  simp [cellV] at hv
  rcases hv with rfl | rfl | rfl | rfl <;> rfl
def cellsV (rs : List CRef) (l : List PCell) : List Value := (rs.zip l).flatMap fun p => cellV p.1 p.2
/-- what a cell's parts read as -/
def PartsRd (w : World) (r : CRef) (c : PCell) : Prop := c.key.length ≤ r.kc ∧ Rd w r.K (vals .u8 c.key) ∧ c.held.length ≤ r.hc ∧ Rd w r.H (ivals c.held)
theorem PartsRd.ext {w w' : World} {r : CRef} {c : PCell} (h : PartsRd w r c) (x : Ext w w') : PartsRd w' r c := ⟨h.1, h.2.1.ext x, h.2.2.1, h.2.2.2.ext x⟩
def CellsRd (w : World) (A : Option Addr) (l : List PCell) (rs : List CRef) : Prop :=
  rs.length = l.length ∧ Rd w A (cellsV rs l) ∧ ∀ (i : Nat) (r : CRef) (c : PCell), rs[i]? = some r → l[i]? = some c → PartsRd w r c
theorem CellsRd.ext {w w' : World} {A : Option Addr} {l : List PCell} {rs : List CRef} (h : CellsRd w A l rs) (x : Ext w w') : CellsRd w' A l rs := ⟨h.1, h.2.1.ext x, fun i r c hr hc => (h.2.2 i r c hr hc).ext x⟩
theorem CellsRd.nil (w : World) : CellsRd w none [] [] := ⟨rfl, Rd.nil _ _, fun i r c hr => by simp at hr⟩
theorem CellsRd.at_ {w : World} {A : Option Addr} {l : List PCell} {rs : List CRef} (h : CellsRd w A l rs) {i : Nat} {c : PCell} (hi : l[i]? = some c) :
    ∃ b off r, A = some ⟨b, off, none⟩ ∧ rs[i]? = some r ∧ w.cell? ⟨b, off + i * 4, none⟩ = some (.int .i64 (c.pol : Int)) ∧ w.cell? ⟨b, off + i * 4 + 1, none⟩ = some (.slice r.K c.key.length r.kc) ∧
      w.cell? ⟨b, off + i * 4 + 2, none⟩ = some (.int .i64 c.tat) ∧ w.cell? ⟨b, off + i * 4 + 3, none⟩ = some (.slice r.H c.held.length r.hc) ∧ PartsRd w r c := by
  have hil := (List.getElem?_eq_some_iff.1 hi).1
  obtain ⟨r, hr⟩ : ∃ r, rs[i]? = some r := ⟨_, List.getElem?_eq_getElem (by rw [h.1]; exact hil)⟩
  have g := fun j (hj : j < 4) => zipG_get cellV 4 cellV_len rs l i j r c hr hi hj
  obtain ⟨b, off, hA, hc⟩ := h.2.1 (fun e0 => by have := g 0 (by omega); rw [show ((rs.zip l).flatMap fun p => cellV p.1 p.2) = [] from e0] at this; simp [cellV] at this)
  refine ⟨b, off, r, hA, hr, ?_, ?_, ?_, ?_, h.2.2 i r c hr hi⟩
  · exact hc _ _ (g 0 (by omega))
  · rw [Nat.add_assoc]; exact hc _ _ (g 1 (by omega))
  · rw [Nat.add_assoc]; exact hc _ _ (g 2 (by omega))
  · rw [Nat.add_assoc]; exact hc _ _ (g 3 (by omega))

/-- what nothing writes stays: X are the blocks that may be written, by whomever -/
structure Kp (w w' : World) (X X' : Nat → Prop) : Prop where
  blk : ∀ i, i < w.heap.size → ¬ X i → w'.heap[i]? = w.heap[i]?
  keep : ∀ i, i < w.heap.size → X' i → X i
  size : w.heap.size ≤ w'.heap.size
theorem Kp.trans {w w' w2 : World} {X X' X2 : Nat → Prop} (h : Kp w w' X X') (k : Kp w' w2 X' X2) : Kp w w2 X X2 :=
  ⟨fun i h1 h2 => (k.blk i (Nat.lt_of_lt_of_le h1 h.size) (fun e => h2 (h.keep i h1 e))).trans (h.blk i h1 h2), fun i h1 h2 => h.keep i h1 (k.keep i (Nat.lt_of_lt_of_le h1 h.size) h2), Nat.le_trans h.size k.size⟩
theorem Kp.of {w w' : World} {X X' S : Nat → Prop} (k : GB w w' S) (hs : ∀ i, i < w.heap.size → S i → X i) (hx : ∀ i, i < w.heap.size → X' i → X i) : Kp w w' X X' :=
  ⟨fun i h1 h2 => k.block i h1 (fun e => h2 (hs i h1 e)), hx, k.size⟩
theorem Kp.ext {w w' : World} (X : Nat → Prop) (h : Ext w w') : Kp w w' X X := ⟨fun i h1 _ => h.block i h1, fun _ _ h => h, h.size⟩
/-- a place that nothing writes -/
def Fz (w : World) (X : Nat → Prop) (A : Option Addr) : Prop := ∀ a, A = some a → ¬ X a.block ∧ a.block < w.heap.size
theorem Fz.kp {w w' : World} {X X' : Nat → Prop} {A : Option Addr} (h : Fz w X A) (k : Kp w w' X X') : Fz w' X' A := fun a ha => ⟨fun e => (h a ha).1 (k.keep _ (h a ha).2 e), Nat.lt_of_lt_of_le (h a ha).2 k.size⟩
theorem Fz.nil {w : World} {X : Nat → Prop} : Fz w X none := fun a ha => by cases ha
theorem Kp.rd {w w' : World} {X X' : Nat → Prop} {A : Option Addr} {vs : List Value} (k : Kp w w' X X') (h : Rd w A vs) (hA : Fz w X A) : Rd w' A vs := fun hne => by
  obtain ⟨b, off, e, hc⟩ := h hne
  obtain ⟨h1, h2⟩ := hA _ e
  exact ⟨b, off, e, fun j u hu => (World.cell?_of_block (k.blk b h2 h1)).trans (hc j u hu)⟩
/-- a block that nothing writes, with these cells -/
def RowX (w : World) (X : Nat → Prop) (p : Value) (cs : Array Value) : Prop := ∃ b t, p = .pointer (some ⟨b, 0, none⟩) ∧ w.heap[b]? = some (.cells cs t (0, 0)) ∧ ¬ X b
theorem RowX.kp {w w' : World} {X X' : Nat → Prop} {p : Value} {cs : Array Value} (h : RowX w X p cs) (k : Kp w w' X X') : RowX w' X' p cs := by
  obtain ⟨b, t, h1, h2, h3⟩ := h
  exact ⟨b, t, h1, (k.blk b (blk_lt h2) h3).trans h2, fun e => h3 (k.keep b (blk_lt h2) e)⟩
theorem RowX.ext {w w' : World} {X : Nat → Prop} {p : Value} {cs : Array Value} (h : RowX w X p cs) (x : Ext w w') : RowX w' X p cs := h.kp (Kp.ext X x)
theorem RowX.cell {w : World} {X : Nat → Prop} {b : Nat} {cs : Array Value} (h : RowX w X (.pointer (some ⟨b, 0, none⟩)) cs) (i : Nat) : w.cell? ⟨b, i, none⟩ = cs[i]? := by
  obtain ⟨b', t, h1, h2, h3⟩ := h
  injection h1 with h1
  injection h1 with h1
  injection h1 with h1
  subst h1
  exact blk_cell h2 i
theorem RowX.ptr {w : World} {X : Nat → Prop} {p : Value} {cs : Array Value} (h : RowX w X p cs) : ∃ b, p = .pointer (some ⟨b, 0, none⟩) ∧ b < w.heap.size := by
  obtain ⟨b, t, h1, h2, h3⟩ := h
  exact ⟨b, h1, blk_lt h2⟩
/-- a cell's parts, in blocks that nothing writes -/
def PartsF (w : World) (X : Nat → Prop) (r : CRef) (c : PCell) : Prop := PartsRd w r c ∧ Fz w X r.K ∧ Fz w X r.H
theorem PartsF.kp {w w' : World} {X X' : Nat → Prop} {r : CRef} {c : PCell} (h : PartsF w X r c) (k : Kp w w' X X') : PartsF w' X' r c :=
  ⟨⟨h.1.1, k.rd h.1.2.1 h.2.1, h.1.2.2.1, k.rd h.1.2.2.2 h.2.2⟩, h.2.1.kp k, h.2.2.kp k⟩
/-- a list of cells, in blocks that nothing writes -/
def CellsF (w : World) (X : Nat → Prop) (A : Option Addr) (l : List PCell) (rs : List CRef) : Prop :=
  CellsRd w A l rs ∧ Fz w X A ∧ ∀ r ∈ rs, Fz w X r.K ∧ Fz w X r.H
theorem CellsF.kp {w w' : World} {X X' : Nat → Prop} {A : Option Addr} {l : List PCell} {rs : List CRef} (h : CellsF w X A l rs) (k : Kp w w' X X') : CellsF w' X' A l rs :=
  ⟨⟨h.1.1, k.rd h.1.2.1 h.2.1, fun i r c hr hc => by
    obtain ⟨a1, a2, a3, a4⟩ := h.1.2.2 i r c hr hc
    obtain ⟨b1, b2⟩ := h.2.2 r (List.mem_of_getElem? hr)
    exact ⟨a1, k.rd a2 b1, a3, k.rd a4 b2⟩⟩, h.2.1.kp k, fun r hr => ⟨(h.2.2 r hr).1.kp k, (h.2.2 r hr).2.kp k⟩⟩
theorem CellsF.nil (w : World) (X : Nat → Prop) : CellsF w X none [] [] := ⟨CellsRd.nil w, Fz.nil, fun r hr => by cases hr⟩
theorem CellsF.part {w : World} {X : Nat → Prop} {A : Option Addr} {l : List PCell} {rs : List CRef} (h : CellsF w X A l rs) {i : Nat} {r : CRef} {c : PCell} (hr : rs[i]? = some r) (hc : l[i]? = some c) : PartsF w X r c :=
  ⟨h.1.2.2 i r c hr hc, h.2.2 r (List.mem_of_getElem? hr)⟩
theorem CellsF.ext {w w' : World} {X : Nat → Prop} {A : Option Addr} {l : List PCell} {rs : List CRef} (h : CellsF w X A l rs) (x : Ext w w') : CellsF w' X A l rs := h.kp (Kp.ext X x)
theorem PartsF.ext {w w' : World} {X : Nat → Prop} {r : CRef} {c : PCell} (h : PartsF w X r c) (x : Ext w w') : PartsF w' X r c := h.kp (Kp.ext X x)
end

section
open Go.RowKit

abbrev fnV (f : FuncId) (caps : Array Value) : Value := .func (.func f) #[] caps
abbrev ptrV (b : Nat) : Value := .pointer (some ⟨b, 0, none⟩)
def polV (p : Pol) : Array Value := #[.int .u8 (p.kind : Int), .int .i64 p.T, .int .i64 p.Tau, .int .i64 p.perm]
def polsV (P : List Pol) : List Value := P.flatMap fun p => (polV p).toList
def repV (r : KRep) : Array Value := #[.int .i64 (r.er : Int), .bool r.granted, .int .i64 r.left, .int .i64 r.wait, .int .i64 r.ser, .int .i64 r.now]
def resV (done : Bool) (r : KRep) : Array Value := #[.bool done, .int .i64 (r.er : Int), .bool r.granted, .int .i64 r.left, .int .i64 r.wait, .int .i64 r.ser, .int .i64 r.now]
def repZ : KRep := ⟨0, false, 0, 0, 0, 0⟩
/-- a box of one value that nothing writes -/
abbrev BoxX (w : World) (X : Nat → Prop) (p v : Value) : Prop := RowX w X p #[v]
/-- a box with a list of cells -/
def CellsBox (w : World) (X : Nat → Prop) (p : Value) (l : List PCell) : Prop := ∃ A c rs, BoxX w X p (.slice A l.length c) ∧ CellsF w X A l rs
/-- a box with a cell -/
def CellBox (w : World) (X : Nat → Prop) (p : Value) (c : PCell) : Prop := ∃ r, RowX w X p (cellV r c).toArray ∧ PartsF w X r c
/-- a box with what was found -/
def FoundBox (w : World) (X : Nat → Prop) (p : Value) (f : Found) : Prop := ∃ A c rs, RowX w X p #[.int .i64 (f.word : Int), .int .u64 (f.v : Int), .slice A f.cells.length c] ∧ CellsF w X A f.cells rs
theorem CellsBox.kp {w w' : World} {X X' : Nat → Prop} {p : Value} {l : List PCell} (h : CellsBox w X p l) (k : Kp w w' X X') : CellsBox w' X' p l := by
  obtain ⟨A, c, rs, h1, h2⟩ := h
  exact ⟨A, c, rs, h1.kp k, h2.kp k⟩
theorem CellBox.kp {w w' : World} {X X' : Nat → Prop} {p : Value} {l : PCell} (h : CellBox w X p l) (k : Kp w w' X X') : CellBox w' X' p l := by
  obtain ⟨r, h1, h2⟩ := h
  exact ⟨r, h1.kp k, h2.kp k⟩
theorem FoundBox.kp {w w' : World} {X X' : Nat → Prop} {p : Value} {f : Found} (h : FoundBox w X p f) (k : Kp w w' X X') : FoundBox w' X' p f := by
  obtain ⟨A, c, rs, h1, h2⟩ := h
  exact ⟨A, c, rs, h1.kp k, h2.kp k⟩
/-- what a call's functions know of it: the lanes, the number of the worker, its box, the policy -/
structure CId where
  gl : Nat
  who : Nat
  xb : Nat
  pol : Pol
/-- 'further' of evict -/
def FurtherAt (w : World) (X : Nat → Prop) (d : CId) (v : Value) (j shards : Nat) : Prop :=
  ∃ r0 r1 r2, v = fnV 177 #[r0, r1, r2] ∧ BoxX w X r0 (.int .i64 (j : Int)) ∧ BoxX w X r1 (.int .i64 (shards : Int)) ∧ BoxX w X r2 (ptrV d.xb)
def ThenAt (w : World) (X : Nat → Prop) (d : CId) (v : Value) : Then → Prop
  | .begin => ∃ q0 q1, v = fnV 190 #[q0, q1] ∧ BoxX w X q0 (ptrV d.xb) ∧ RowX w X q1 (polV d.pol)
  | .evict j shards gone => ∃ q0 q1 q2 fv, v = fnV 180 #[q0, q1, q2] ∧ BoxX w X q0 fv ∧ FurtherAt w X d fv j shards ∧ BoxX w X q1 (.int .i64 gone) ∧ BoxX w X q2 (ptrV d.xb)
def endFn : Value := fnV 130 #[]
def NoneBox (w : World) (X : Nat → Prop) (p : Value) : Prop := RowX w X p (resV false repZ)
def LanesBox (w : World) (X : Nat → Prop) (d : CId) (p q : Value) : Prop := BoxX w X p (ptrV d.gl) ∧ BoxX w X q (.int .i64 (d.who : Int))
def FThenAt (w : World) (X : Nat → Prop) (d : CId) (v : Value) : FThen → Prop
  | .find sum level t => ∃ p0 p1 p2 p3 p4 p5 tv, v = fnV 239 #[p0, p1, p2, p3, p4, p5] ∧ LanesBox w X d p0 p1 ∧ BoxX w X p2 (.int .i64 (level : Int)) ∧ BoxX w X p3 (.int .u64 (sum : Int)) ∧ BoxX w X p4 tv ∧ ThenAt w X d tv t ∧ NoneBox w X p5
  | .move level i => ∃ p0 p1 p2 p3 p4 p5, v = fnV 233 #[p0, p1, p2, p3, p4, p5] ∧ LanesBox w X d p0 p1 ∧ BoxX w X p2 (.int .i64 (level : Int)) ∧ BoxX w X p3 (.int .i64 (i : Int)) ∧ BoxX w X p4 endFn ∧ NoneBox w X p5
def HThenAt (w : World) (X : Nat → Prop) (d : CId) (v : Value) : HThen → Prop
  | .find sum t => ∃ p0 p1 p2 p3 p4 tv, v = fnV 240 #[p0, p1, p2, p3, p4] ∧ LanesBox w X d p0 p1 ∧ BoxX w X p2 (.int .u64 (sum : Int)) ∧ BoxX w X p3 tv ∧ ThenAt w X d tv t ∧ NoneBox w X p4
  | .move1 level i holds => ∃ p0 p1 p2 p3 p4 p5 p6, v = fnV 235 #[p0, p1, p2, p3, p4, p5, p6] ∧ LanesBox w X d p0 p1 ∧ BoxX w X p2 (.int .i64 (level : Int)) ∧ BoxX w X p3 (.int .i64 (i : Int)) ∧ CellsBox w X p4 holds ∧ BoxX w X p5 endFn ∧ NoneBox w X p6
  | .move2 level i => ∃ p0 p1 p2 p3 p4 p5, v = fnV 236 #[p0, p1, p2, p3, p4, p5] ∧ LanesBox w X d p0 p1 ∧ BoxX w X p2 (.int .i64 (level : Int)) ∧ BoxX w X p3 (.int .i64 (i : Int)) ∧ BoxX w X p4 endFn ∧ NoneBox w X p5
/-- put's swap -/
def PutAt (w : World) (X : Nat → Prop) (d : CId) (v : Value) (f : Found) (c : PCell) (r : KRep) : Prop :=
  ∃ p0 p1 p2 p3 p4 p5, v = fnV 255 #[p0, p1, p2, p3, p4, p5] ∧ BoxX w X p0 (ptrV d.xb) ∧ FoundBox w X p1 f ∧ BoxX w X p2 (.int .i64 (f.at_ : Int)) ∧ BoxX w X p3 (.bool f.there) ∧ CellBox w X p4 c ∧ RowX w X p5 (repV r)
/-- acquire's put -/
def AcqAt (w : World) (X : Nat → Prop) (d : CId) (v : Value) (f : Found) (c : PCell) : Prop :=
  ∃ p0 p1 p2 p3 p4 p5, v = fnV 250 #[p0, p1, p2, p3, p4, p5] ∧ RowX w X p0 (polV d.pol) ∧ CellBox w X p1 c ∧ BoxX w X p2 (ptrV d.xb) ∧ FoundBox w X p3 f ∧ BoxX w X p4 (.int .i64 (f.at_ : Int)) ∧ BoxX w X p5 (.bool f.there)
/-- what is done behind a number that goes on: stopped, then -/
def MThenAt (w : World) (X : Nat → Prop) (d : CId) (sv tv : Value) : MThen → Prop
  | .leave r => ∃ q p iv, sv = .nilFunc ∧ tv = fnV 245 #[q] ∧ BoxX w X q iv ∧ iv = fnV 281 #[p] ∧ RowX w X p (repV r)
  | .gone j shards was n => ∃ q p0 p1 p2 iv fv, sv = .nilFunc ∧ tv = fnV 245 #[q] ∧ BoxX w X q iv ∧ iv = fnV 189 #[p0, p1, p2] ∧ BoxX w X p0 fv ∧ FurtherAt w X d fv j shards ∧ BoxX w X p1 (.int .i64 was) ∧ BoxX w X p2 (.int .i64 (n : Int))
  | .count f c r => ∃ p0 p1 pv, sv = fnV 257 #[] ∧ tv = fnV 258 #[p0, p1] ∧ BoxX w X p0 (ptrV d.xb) ∧ BoxX w X p1 pv ∧ PutAt w X d pv f c r
  | .serial f c => ∃ s0 p0 p1 av, sv = fnV 252 #[s0] ∧ BoxX w X s0 (ptrV d.xb) ∧ tv = fnV 253 #[p0, p1] ∧ BoxX w X p0 (ptrV d.xb) ∧ BoxX w X p1 av ∧ AcqAt w X d av f c
/-- what a pending call does next, in memory -/
def KontAt (w : World) (X : Nat → Prop) (d : CId) (v : Value) : Kont → Prop
  | .find sum t => ∃ p0 p1 p2 p3 tv, v = fnV 237 #[p0, p1, p2, p3] ∧ LanesBox w X d p0 p1 ∧ BoxX w X p2 (.int .u64 (sum : Int)) ∧ BoxX w X p3 tv ∧ ThenAt w X d tv t
  | .enter sum word t => ∃ p0 p1 p2 p3 p4 tv, v = fnV 276 #[p0, p1, p2, p3, p4] ∧ LanesBox w X d p0 p1 ∧ BoxX w X p2 (.int .i64 (word : Int)) ∧ BoxX w X p3 (.int .u64 (sum : Int)) ∧ BoxX w X p4 tv ∧ ThenAt w X d tv t
  | .frz word t => ∃ p0 p1 p2 p3 tv, v = fnV 272 #[p0, p1, p2, p3] ∧ LanesBox w X d p0 p1 ∧ BoxX w X p2 (.int .i64 (word : Int)) ∧ BoxX w X p3 tv ∧ FThenAt w X d tv t
  | .frzS word u holds t => ∃ p0 p1 p2 p3 p4 p5 p6 tv, v = fnV 273 #[p0, p1, p2, p3, p4, p5, p6] ∧ LanesBox w X d p0 p1 ∧ BoxX w X p2 (.int .i64 (word : Int)) ∧ BoxX w X p3 (.int .u64 (u : Int)) ∧ CellsBox w X p4 holds ∧ BoxX w X p5 tv ∧ FThenAt w X d tv t ∧ NoneBox w X p6
  | .half level shard holds t => ∃ p0 p1 p2 p3 p4 p5 tv, v = fnV 274 #[p0, p1, p2, p3, p4, p5] ∧ LanesBox w X d p0 p1 ∧ BoxX w X p2 (.int .i64 (placeK level shard : Int)) ∧ BoxX w X p3 tv ∧ HThenAt w X d tv t ∧ CellsBox w X p4 holds ∧ BoxX w X p5 (.int .i64 (level : Int))
  | .halfS level shard holds t => ∃ p0 p1 p2 p3 p4 p5 p6 tv, v = fnV 275 #[p0, p1, p2, p3, p4, p5, p6] ∧ LanesBox w X d p0 p1 ∧ BoxX w X p2 (.int .i64 (placeK level shard : Int)) ∧ CellsBox w X p3 holds ∧ BoxX w X p4 (.int .i64 (level : Int)) ∧ BoxX w X p5 tv ∧ HThenAt w X d tv t ∧ ∃ h, CellsBox w X p6 h
  | .split => ∃ p0 p1 p2, v = fnV 173 #[p0, p1, p2] ∧ LanesBox w X d p0 p1 ∧ BoxX w X p2 endFn
  | .splitS u => ∃ p0 p1 p2 p3 p4 p5, v = fnV 176 #[p0, p1, p2, p3, p4, p5] ∧ LanesBox w X d p0 p1 ∧ BoxX w X p2 (.int .u64 (u : Int)) ∧ BoxX w X p3 endFn ∧ NoneBox w X p4 ∧ BoxX w X p5 (.int .i64 ((u / 2 : Nat) : Int))
  | .moveEnd level => ∃ p0 p1 p2 p3, v = fnV 231 #[p0, p1, p2, p3] ∧ LanesBox w X d p0 p1 ∧ BoxX w X p2 (.int .i64 (level : Int)) ∧ BoxX w X p3 endFn
  | .mv word by_ stop t => ∃ p0 p1 p2 p3 p4 p5 sv tv, v = fnV 277 #[p0, p1, p2, p3, p4, p5] ∧ BoxX w X p0 (ptrV d.xb) ∧ BoxX w X p1 (.int .i64 (word : Int)) ∧ BoxX w X p2 (.int .u64 (stop : Int)) ∧ BoxX w X p3 sv ∧ BoxX w X p4 (.int .u64 (by_ : Int)) ∧ BoxX w X p5 tv ∧ MThenAt w X d sv tv t
  | .mvS word by_ stop u t => ∃ p0 p1 p2 p3 p4 p5 p6 sv tv, v = fnV 278 #[p0, p1, p2, p3, p4, p5, p6] ∧ BoxX w X p0 (ptrV d.xb) ∧ BoxX w X p1 (.int .i64 (word : Int)) ∧ BoxX w X p2 (.int .u64 (u : Int)) ∧ BoxX w X p3 (.int .u64 (by_ : Int)) ∧ BoxX w X p4 (.int .u64 (stop : Int)) ∧ BoxX w X p5 sv ∧ BoxX w X p6 tv ∧ MThenAt w X d sv tv t
  | .put f c r => PutAt w X d v f c r
  | .peek c => ∃ p0 p1 p2, v = fnV 197 #[p0, p1, p2] ∧ RowX w X p0 (polV d.pol) ∧ CellBox w X p1 c ∧ BoxX w X p2 (ptrV d.xb)
  | .allow f c => ∃ p0 p1 p2 p3 p4 p5, v = fnV 247 #[p0, p1, p2, p3, p4, p5] ∧ RowX w X p0 (polV d.pol) ∧ CellBox w X p1 c ∧ BoxX w X p2 (ptrV d.xb) ∧ FoundBox w X p3 f ∧ BoxX w X p4 (.int .i64 (f.at_ : Int)) ∧ BoxX w X p5 (.bool f.there)
  | .evFirst => ∃ p0, v = fnV 131 #[p0] ∧ BoxX w X p0 (ptrV d.xb)
  | .evScan j shards gone word u cells => ∃ p0 p1 p2 p3 p4 p5 fv, v = fnV 181 #[p0, p1, p2, p3, p4, p5] ∧ BoxX w X p0 (ptrV d.xb) ∧ CellsBox w X p1 cells ∧ BoxX w X p2 fv ∧ FurtherAt w X d fv j shards ∧ BoxX w X p3 (.int .i64 gone) ∧ BoxX w X p4 (.int .i64 (word : Int)) ∧ BoxX w X p5 (.int .u64 (u : Int))
  | .evSwap j shards gone word u rest n => ∃ p0 p1 p2 p3 p4 p5 p6 fv, v = fnV 187 #[p0, p1, p2, p3, p4, p5, p6] ∧ BoxX w X p0 (ptrV d.xb) ∧ BoxX w X p1 (.int .i64 (word : Int)) ∧ BoxX w X p2 (.int .u64 (u : Int)) ∧ CellsBox w X p3 rest ∧ BoxX w X p4 fv ∧ FurtherAt w X d fv j shards ∧ BoxX w X p5 (.int .i64 gone) ∧ BoxX w X p6 (.int .i64 (n : Int))
theorem FurtherAt.kp {w w' : World} {X X' : Nat → Prop} {d : CId} {v : Value} {j shards : Nat} (h : FurtherAt w X d v j shards) (k : Kp w w' X X') : FurtherAt w' X' d v j shards := by
  obtain ⟨r0, r1, r2, h0, h1, h2, h3⟩ := h
  exact ⟨r0, r1, r2, h0, h1.kp k, h2.kp k, h3.kp k⟩
theorem LanesBox.kp {w w' : World} {X X' : Nat → Prop} {d : CId} {p q : Value} (h : LanesBox w X d p q) (k : Kp w w' X X') : LanesBox w' X' d p q := ⟨h.1.kp k, h.2.kp k⟩
theorem NoneBox.kp {w w' : World} {X X' : Nat → Prop} {p : Value} (h : NoneBox w X p) (k : Kp w w' X X') : NoneBox w' X' p := RowX.kp h k
theorem ThenAt.kp {w w' : World} {X X' : Nat → Prop} {d : CId} {v : Value} {t : Then} (h : ThenAt w X d v t) (k : Kp w w' X X') : ThenAt w' X' d v t := by
  cases t with
  | begin => obtain ⟨q0, q1, h0, h1, h2⟩ := h; exact ⟨q0, q1, h0, h1.kp k, h2.kp k⟩
  | evict j shards gone => obtain ⟨q0, q1, q2, fv, h0, h1, h2, h3, h4⟩ := h; exact ⟨q0, q1, q2, fv, h0, h1.kp k, h2.kp k, h3.kp k, h4.kp k⟩
theorem FThenAt.kp {w w' : World} {X X' : Nat → Prop} {d : CId} {v : Value} {t : FThen} (h : FThenAt w X d v t) (k : Kp w w' X X') : FThenAt w' X' d v t := by
  cases t with
  | find sum level t => obtain ⟨p0, p1, p2, p3, p4, p5, tv, h0, h1, h2, h3, h4, h5, h6⟩ := h; exact ⟨p0, p1, p2, p3, p4, p5, tv, h0, h1.kp k, h2.kp k, h3.kp k, h4.kp k, h5.kp k, h6.kp k⟩
  | move level i => obtain ⟨p0, p1, p2, p3, p4, p5, h0, h1, h2, h3, h4, h5⟩ := h; exact ⟨p0, p1, p2, p3, p4, p5, h0, h1.kp k, h2.kp k, h3.kp k, h4.kp k, h5.kp k⟩
theorem HThenAt.kp {w w' : World} {X X' : Nat → Prop} {d : CId} {v : Value} {t : HThen} (h : HThenAt w X d v t) (k : Kp w w' X X') : HThenAt w' X' d v t := by
  cases t with
  | find sum t => obtain ⟨p0, p1, p2, p3, p4, tv, h0, h1, h2, h3, h4, h5⟩ := h; exact ⟨p0, p1, p2, p3, p4, tv, h0, h1.kp k, h2.kp k, h3.kp k, h4.kp k, h5.kp k⟩
  | move1 level i holds => obtain ⟨p0, p1, p2, p3, p4, p5, p6, h0, h1, h2, h3, h4, h5, h6⟩ := h; exact ⟨p0, p1, p2, p3, p4, p5, p6, h0, h1.kp k, h2.kp k, h3.kp k, h4.kp k, h5.kp k, h6.kp k⟩
  | move2 level i => obtain ⟨p0, p1, p2, p3, p4, p5, h0, h1, h2, h3, h4, h5⟩ := h; exact ⟨p0, p1, p2, p3, p4, p5, h0, h1.kp k, h2.kp k, h3.kp k, h4.kp k, h5.kp k⟩
theorem PutAt.kp {w w' : World} {X X' : Nat → Prop} {d : CId} {v : Value} {f : Found} {c : PCell} {r : KRep} (h : PutAt w X d v f c r) (k : Kp w w' X X') : PutAt w' X' d v f c r := by
  obtain ⟨p0, p1, p2, p3, p4, p5, h0, h1, h2, h3, h4, h5, h6⟩ := h
  exact ⟨p0, p1, p2, p3, p4, p5, h0, h1.kp k, h2.kp k, h3.kp k, h4.kp k, h5.kp k, h6.kp k⟩
theorem AcqAt.kp {w w' : World} {X X' : Nat → Prop} {d : CId} {v : Value} {f : Found} {c : PCell} (h : AcqAt w X d v f c) (k : Kp w w' X X') : AcqAt w' X' d v f c := by
  obtain ⟨p0, p1, p2, p3, p4, p5, h0, h1, h2, h3, h4, h5, h6⟩ := h
  exact ⟨p0, p1, p2, p3, p4, p5, h0, h1.kp k, h2.kp k, h3.kp k, h4.kp k, h5.kp k, h6.kp k⟩
theorem MThenAt.kp {w w' : World} {X X' : Nat → Prop} {d : CId} {sv tv : Value} {t : MThen} (h : MThenAt w X d sv tv t) (k : Kp w w' X X') : MThenAt w' X' d sv tv t := by
  cases t with
  | leave r => obtain ⟨q, p, iv, h0, h1, h2, h3, h4⟩ := h; exact ⟨q, p, iv, h0, h1, h2.kp k, h3, h4.kp k⟩
  | gone j shards was n => obtain ⟨q, p0, p1, p2, iv, fv, h0, h1, h2, h3, h4, h5, h6, h7⟩ := h; exact ⟨q, p0, p1, p2, iv, fv, h0, h1, h2.kp k, h3, h4.kp k, h5.kp k, h6.kp k, h7.kp k⟩
  | count f c r => obtain ⟨p0, p1, pv, h0, h1, h2, h3, h4⟩ := h; exact ⟨p0, p1, pv, h0, h1, h2.kp k, h3.kp k, h4.kp k⟩
  | serial f c => obtain ⟨s0, p0, p1, av, h0, h1, h2, h3, h4, h5⟩ := h; exact ⟨s0, p0, p1, av, h0, h1.kp k, h2, h3.kp k, h4.kp k, h5.kp k⟩
theorem KontAt.kp {w w' : World} {X X' : Nat → Prop} {d : CId} {v : Value} {t : Kont} (h : KontAt w X d v t) (k : Kp w w' X X') : KontAt w' X' d v t := by
  cases t with
  | find sum t => obtain ⟨p0, p1, p2, p3, tv, h0, h1, h2, h3, h4⟩ := h; exact ⟨p0, p1, p2, p3, tv, h0, h1.kp k, h2.kp k, h3.kp k, h4.kp k⟩
  | enter sum word t => obtain ⟨p0, p1, p2, p3, p4, tv, h0, h1, h2, h3, h4, h5⟩ := h; exact ⟨p0, p1, p2, p3, p4, tv, h0, h1.kp k, h2.kp k, h3.kp k, h4.kp k, h5.kp k⟩
  | frz word t => obtain ⟨p0, p1, p2, p3, tv, h0, h1, h2, h3, h4⟩ := h; exact ⟨p0, p1, p2, p3, tv, h0, h1.kp k, h2.kp k, h3.kp k, h4.kp k⟩
  | frzS word u holds t => obtain ⟨p0, p1, p2, p3, p4, p5, p6, tv, h0, h1, h2, h3, h4, h5, h6, h7⟩ := h; exact ⟨p0, p1, p2, p3, p4, p5, p6, tv, h0, h1.kp k, h2.kp k, h3.kp k, h4.kp k, h5.kp k, h6.kp k, h7.kp k⟩
  | half level shard holds t => obtain ⟨p0, p1, p2, p3, p4, p5, tv, h0, h1, h2, h3, h4, h5, h6⟩ := h; exact ⟨p0, p1, p2, p3, p4, p5, tv, h0, h1.kp k, h2.kp k, h3.kp k, h4.kp k, h5.kp k, h6.kp k⟩
  | halfS level shard holds t => obtain ⟨p0, p1, p2, p3, p4, p5, p6, tv, h0, h1, h2, h3, h4, h5, h6, h, h7⟩ := h; exact ⟨p0, p1, p2, p3, p4, p5, p6, tv, h0, h1.kp k, h2.kp k, h3.kp k, h4.kp k, h5.kp k, h6.kp k, h, h7.kp k⟩
  | split => obtain ⟨p0, p1, p2, h0, h1, h2⟩ := h; exact ⟨p0, p1, p2, h0, h1.kp k, h2.kp k⟩
  | splitS u => obtain ⟨p0, p1, p2, p3, p4, p5, h0, h1, h2, h3, h4, h5⟩ := h; exact ⟨p0, p1, p2, p3, p4, p5, h0, h1.kp k, h2.kp k, h3.kp k, h4.kp k, h5.kp k⟩
  | moveEnd level => obtain ⟨p0, p1, p2, p3, h0, h1, h2, h3⟩ := h; exact ⟨p0, p1, p2, p3, h0, h1.kp k, h2.kp k, h3.kp k⟩
  | mv word by_ stop t => obtain ⟨p0, p1, p2, p3, p4, p5, sv, tv, h0, h1, h2, h3, h4, h5, h6, h7⟩ := h; exact ⟨p0, p1, p2, p3, p4, p5, sv, tv, h0, h1.kp k, h2.kp k, h3.kp k, h4.kp k, h5.kp k, h6.kp k, h7.kp k⟩
  | mvS word by_ stop u t => obtain ⟨p0, p1, p2, p3, p4, p5, p6, sv, tv, h0, h1, h2, h3, h4, h5, h6, h7, h8⟩ := h; exact ⟨p0, p1, p2, p3, p4, p5, p6, sv, tv, h0, h1.kp k, h2.kp k, h3.kp k, h4.kp k, h5.kp k, h6.kp k, h7.kp k, h8.kp k⟩
  | put f c r => exact PutAt.kp h k
  | peek c => obtain ⟨p0, p1, p2, h0, h1, h2, h3⟩ := h; exact ⟨p0, p1, p2, h0, h1.kp k, h2.kp k, h3.kp k⟩
  | allow f c => obtain ⟨p0, p1, p2, p3, p4, p5, h0, h1, h2, h3, h4, h5, h6⟩ := h; exact ⟨p0, p1, p2, p3, p4, p5, h0, h1.kp k, h2.kp k, h3.kp k, h4.kp k, h5.kp k, h6.kp k⟩
  | evFirst => obtain ⟨p0, h0, h1⟩ := h; exact ⟨p0, h0, h1.kp k⟩
  | evScan j shards gone word u cells => obtain ⟨p0, p1, p2, p3, p4, p5, fv, h0, h1, h2, h3, h4, h5, h6, h7⟩ := h; exact ⟨p0, p1, p2, p3, p4, p5, fv, h0, h1.kp k, h2.kp k, h3.kp k, h4.kp k, h5.kp k, h6.kp k, h7.kp k⟩
  | evSwap j shards gone word u rest n => obtain ⟨p0, p1, p2, p3, p4, p5, p6, fv, h0, h1, h2, h3, h4, h5, h6, h7, h8⟩ := h; exact ⟨p0, p1, p2, p3, p4, p5, p6, fv, h0, h1.kp k, h2.kp k, h3.kp k, h4.kp k, h5.kp k, h6.kp k, h7.kp k, h8.kp k⟩
theorem KontAt.fn {w : World} {X : Nat → Prop} {d : CId} {v : Value} {t : Kont} (h : KontAt w X d v t) : ∃ f c, v = fnV f c := by
  cases t with
  | find sum t => obtain ⟨p0, p1, p2, p3, tv, h0, _⟩ := h; exact ⟨_, _, h0⟩
  | enter sum word t => obtain ⟨p0, p1, p2, p3, p4, tv, h0, _⟩ := h; exact ⟨_, _, h0⟩
  | frz word t => obtain ⟨p0, p1, p2, p3, tv, h0, _⟩ := h; exact ⟨_, _, h0⟩
  | frzS word u holds t => obtain ⟨p0, p1, p2, p3, p4, p5, p6, tv, h0, _⟩ := h; exact ⟨_, _, h0⟩
  | half level shard holds t => obtain ⟨p0, p1, p2, p3, p4, p5, tv, h0, _⟩ := h; exact ⟨_, _, h0⟩
  | halfS level shard holds t => obtain ⟨p0, p1, p2, p3, p4, p5, p6, tv, h0, _⟩ := h; exact ⟨_, _, h0⟩
  | split => obtain ⟨p0, p1, p2, h0, _⟩ := h; exact ⟨_, _, h0⟩
  | splitS u => obtain ⟨p0, p1, p2, p3, p4, p5, h0, _⟩ := h; exact ⟨_, _, h0⟩
  | moveEnd level => obtain ⟨p0, p1, p2, p3, h0, _⟩ := h; exact ⟨_, _, h0⟩
  | mv word by_ stop t => obtain ⟨p0, p1, p2, p3, p4, p5, sv, tv, h0, _⟩ := h; exact ⟨_, _, h0⟩
  | mvS word by_ stop u t => obtain ⟨p0, p1, p2, p3, p4, p5, p6, sv, tv, h0, _⟩ := h; exact ⟨_, _, h0⟩
  | put f c r => obtain ⟨p0, p1, p2, p3, p4, p5, h0, _⟩ := h; exact ⟨_, _, h0⟩
  | peek c => obtain ⟨p0, p1, p2, h0, _⟩ := h; exact ⟨_, _, h0⟩
  | allow f c => obtain ⟨p0, p1, p2, p3, p4, p5, h0, _⟩ := h; exact ⟨_, _, h0⟩
  | evFirst => obtain ⟨p0, h0, _⟩ := h; exact ⟨_, _, h0⟩
  | evScan j shards gone word u cells => obtain ⟨p0, p1, p2, p3, p4, p5, fv, h0, _⟩ := h; exact ⟨_, _, h0⟩
  | evSwap j shards gone word u rest n => obtain ⟨p0, p1, p2, p3, p4, p5, p6, fv, h0, _⟩ := h; exact ⟨_, _, h0⟩
end

section
open Go.RowKit
end
end Go.Proofs.YtloidkmphigbdaaGreat
