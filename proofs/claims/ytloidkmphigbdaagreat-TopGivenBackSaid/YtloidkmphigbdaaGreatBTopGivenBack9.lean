/- Laid together: what 'TopGivenBack' needs, part 9 of 12. -/
import Derived.Deep.RegionHeld3
import Derived.Shelf.Bytes.SlSmallAll
import Derived.OrdersHeld
import Derived.Deep.RegionHeld
import Derived.Test.YtloidkmphigbdaaGreatBTopGivenBack8
namespace Go.Proofs.YtloidkmphigbdaaGreat
set_option linter.all false

section
open Go.RowKit

structure CCall where
  op : Nat
  pol : Nat
  key : List Nat
  num : Nat
structure CTok where
  pol : Int
  key : List Nat
  ser : Int
abbrev KRef := Option Addr × Nat
def callC (k : KRef) (c : CCall) : List Value := [.int .u8 (c.op : Int), .int .i64 (c.pol : Int), .slice k.1 c.key.length k.2, .int .i64 (c.num : Int)]
def tokC (k : KRef) (t : CTok) : List Value := [.int .i64 t.pol, .slice k.1 t.key.length k.2, .int .i64 t.ser]
def callsV (ks : List KRef) (l : List CCall) : List Value := (ks.zip l).flatMap fun p => callC p.1 p.2
def toksV (ks : List KRef) (l : List CTok) : List Value := (ks.zip l).flatMap fun p => tokC p.1 p.2
/-- rows of so many cells an element -/
theorem zipV_len {α : Type} (f : KRef → α → List Value) (s : Nat) (hf : ∀ k x, (f k x).length = s) : ∀ (ks : List KRef) (l : List α), ks.length = l.length → ((ks.zip l).flatMap fun p => f p.1 p.2).length = l.length * s
  | [], [], _ => by simp
  | [], _ :: _, h => by cases h
  | _ :: _, [], h => by cases h
  | k :: ks, x :: l, h => by
    have := zipV_len f s hf ks l (by simpa using h)
    rw [List.zip_cons_cons, List.flatMap_cons, List.length_append, this, hf, List.length_cons, Nat.add_mul, Nat.one_mul, Nat.add_comm]
theorem zipV_get {α : Type} (f : KRef → α → List Value) (s : Nat) (hf : ∀ k x, (f k x).length = s) : ∀ (ks : List KRef) (l : List α) (i j : Nat) (k : KRef) (x : α), ks[i]? = some k → l[i]? = some x → j < s → ((ks.zip l).flatMap fun p => f p.1 p.2)[i * s + j]? = (f k x)[j]?
  | [], _, _, _, _, _, h, _, _ => by simp at h
  | _ :: _, [], _, _, _, _, _, h, _ => by simp at h
  | k0 :: ks, x0 :: l, 0, j, k, x, h1, h2, hj => by
    simp at h1 h2
    subst h1 h2
    rw [List.zip_cons_cons, List.flatMap_cons, Nat.zero_mul, Nat.zero_add, List.getElem?_append_left (by rw [hf]; exact hj)]
  | k0 :: ks, x0 :: l, i + 1, j, k, x, h1, h2, hj => by
    have := zipV_get f s hf ks l i j k x (by simpa using h1) (by simpa using h2) hj
    rw [List.zip_cons_cons, List.flatMap_cons, List.getElem?_append_right (by rw [hf, Nat.add_mul, Nat.one_mul]; omega), hf, show (i + 1) * s + j - s = i * s + j by rw [Nat.add_mul, Nat.one_mul]; omega]
    exact this
theorem zipV_snoc {α : Type} (f : KRef → α → List Value) {ks : List KRef} {l : List α} (h : ks.length = l.length) (k : KRef) (x : α) : ((ks ++ [k]).zip (l ++ [x])).flatMap (fun p => f p.1 p.2) = ((ks.zip l).flatMap fun p => f p.1 p.2) ++ f k x := by
  rw [List.zip_append h, List.flatMap_append]
  simp
/-- keys that read so -/
def KeysRd {α : Type} (w : World) (key : α → List Nat) (ks : List KRef) (l : List α) : Prop := ∀ p ∈ ks.zip l, (key p.2).length ≤ p.1.2 ∧ Rd w p.1.1 (vals .u8 (key p.2))
theorem KeysRd.ext {α : Type} {w w' : World} {key : α → List Nat} {ks : List KRef} {l : List α} (h : KeysRd w key ks l) (x : Ext w w') : KeysRd w' key ks l := fun p hp => ⟨(h p hp).1, (h p hp).2.ext x⟩
theorem KeysRd.snoc {α : Type} {w : World} {key : α → List Nat} {ks : List KRef} {l : List α} (h : KeysRd w key ks l) (hl : ks.length = l.length) {k : KRef} {x : α} (h1 : (key x).length ≤ k.2) (h2 : Rd w k.1 (vals .u8 (key x))) : KeysRd w key (ks ++ [k]) (l ++ [x]) := fun p hp => by
  rw [List.zip_append hl] at hp
  rcases List.mem_append.1 hp with hp | hp
  · exact h p hp
  · simp at hp
    subst hp
    exact ⟨h1, h2⟩
/-- a list of tokens that reads so -/
def TokRd (w : World) (A : Option Addr) (l : List CTok) (ks : List KRef) : Prop := ks.length = l.length ∧ Rd w A (toksV ks l) ∧ KeysRd w (fun t => t.key) ks l
theorem TokRd.ext {w w' : World} {A : Option Addr} {l : List CTok} {ks : List KRef} (h : TokRd w A l ks) (x : Ext w w') : TokRd w' A l ks := ⟨h.1, h.2.1.ext x, h.2.2.ext x⟩
theorem TokRd.at_ {w : World} {A : Option Addr} {l : List CTok} {ks : List KRef} (h : TokRd w A l ks) {i : Nat} {t : CTok} (hi : l[i]? = some t) :
    ∃ b off K c, A = some ⟨b, off, none⟩ ∧ ks[i]? = some (K, c) ∧ w.cell? ⟨b, off + i * 3, none⟩ = some (.int .i64 t.pol) ∧ w.cell? ⟨b, off + i * 3 + 1, none⟩ = some (.slice K t.key.length c) ∧ w.cell? ⟨b, off + i * 3 + 2, none⟩ = some (.int .i64 t.ser) ∧ t.key.length ≤ c ∧ Rd w K (vals .u8 t.key) := by
  have hil := (List.getElem?_eq_some_iff.1 hi).1
  obtain ⟨k, hk⟩ : ∃ k, ks[i]? = some k := ⟨_, List.getElem?_eq_getElem (by rw [h.1]; exact hil)⟩
  have hg := fun j hj => zipV_get tokC 3 (fun _ _ => rfl) ks l i j k t hk hi hj
  obtain ⟨b, off, hA, hc⟩ := h.2.1 (fun e0 => by have := hg 0 (by omega); unfold toksV at e0; rw [e0] at this; simp [tokC] at this)
  obtain ⟨f1, f2⟩ := h.2.2 (k, t) (List.mem_of_getElem? (List.getElem?_zip_eq_some.2 ⟨hk, hi⟩))
  refine ⟨b, off, k.1, k.2, hA, hk, ?_, ?_, ?_, f1, f2⟩
  · exact hc (i * 3 + 0) _ (hg 0 (by omega))
  · rw [Nat.add_assoc]; exact hc (i * 3 + 1) _ (hg 1 (by omega))
  · rw [Nat.add_assoc]; exact hc (i * 3 + 2) _ (hg 2 (by omega))
/-- what a connection holds -/
structure CSt where
  ws : List Nat
  cl : Bool
  line : List CCall
  fin : Nat
  out : Option CCall
  wr : List Nat
  led : List CTok
  closed : Bool
  hung : Bool
def cInit : CSt := ⟨[], false, [], 0, none, [], [], false, false⟩
/-- the call that bytes are -/
noncomputable def decC (ys : List Nat) : Option CCall := by
  classical
  exact if h : ∃ c : CCall, NormC c.op c.pol c.key c.num ∧ ys = reqB c.op c.pol c.key c.num then some h.choose else none
theorem decC_some {ys : List Nat} {c : CCall} (h : decC ys = some c) : NormC c.op c.pol c.key c.num ∧ ys = reqB c.op c.pol c.key c.num := by
  unfold decC at h
  split at h
  · next h9 =>
    injection h with h
    rw [← h]
    exact h9.choose_spec
  · cases h
theorem decC_none {ys : List Nat} (h : decC ys = none) : ¬ IsReq ys := by
  unfold decC at h
  split at h
  · cases h
  · next h9 =>
    rintro ⟨op, p, xs, N, h1, h2⟩
    exact h9 ⟨⟨op, p, xs, N⟩, h1, h2⟩
theorem decC_of {c : CCall} (h : NormC c.op c.pol c.key c.num) : decC (reqB c.op c.pol c.key c.num) = some c := by
  cases hd : decC (reqB c.op c.pol c.key c.num) with
  | none => exact absurd ⟨c.op, c.pol, c.key, c.num, h, rfl⟩ (decC_none hd)
  | some d =>
    obtain ⟨d1, d2⟩ := decC_some hd
    obtain ⟨e1, e2, e3, e4, _⟩ := begins_one (zs := reqB c.op c.pol c.key c.num) (rest := []) (rest' := []) (show Begins _ c.op c.pol c.key c.num [] from ⟨h, by rw [List.append_nil], fun _ => rfl⟩) (show Begins _ d.op d.pol d.key d.num [] from ⟨d1, by rw [List.append_nil]; exact d2, fun _ => rfl⟩)
    obtain ⟨a, b, c', d'⟩ := c
    obtain ⟨a2, b2, c2, d2'⟩ := d
    dsimp only at e1 e2 e3 e4
    subst e1 e2 e3 e4
    rfl
/-- payloads, one behind the other, onto the line; did one fail? -/
noncomputable def readL : List CCall → List (List Nat) → List CCall × Bool
  | l, [] => (l, false)
  | l, ys :: t => match decC ys with
    | some c => readL (l ++ [c]) t
    | none => (l, true)

/-- blocks that are each another's none -/
def Apart (L : List (Option Nat)) : Prop := L.Pairwise fun x y => ∀ b, x = some b → y ≠ some b
/-- where a key lies -/
def KeyIn (RO : Nat → Prop) (k : KRef) : Prop := ∀ a, k.1 = some a → RO a.block
def OutAt1 (w : World) (RO : Nat → Prop) (ov : Value) : Option CCall → Prop
  | none => ov = .pointer none
  | some c => ∃ o k, ov = .pointer (some ⟨o, 0, none⟩) ∧ w.heap[o]? = some (.cells (callC k c).toArray 34 (0, 0)) ∧ c.key.length ≤ k.2 ∧ Rd w k.1 (vals .u8 c.key) ∧ RO o ∧ KeyIn RO k
/-- a connection in memory: L are the blocks that are written (its own, the reader's, the line's, the bytes', the ledger's); RO are those that are read alone; base: nothing of it is older -/
def ConnAt (w : World) (base : Nat) (L : List (Option Nat)) (RO : Nat → Prop) (gc r : Nat) (s : CSt) : Prop :=
  ∃ (S : Nat → Prop) (lv ov : Value) (lob : Option Nat) (lk tk : List KRef) (WA TA : Option Addr) (wn wc tn tc : Nat),
    L = [some gc, some r, lob, (Value.slice WA wn wc).ownBlock, (Value.slice TA tn tc).ownBlock] ∧ Apart L ∧
    w.heap[gc]? = some (.cells #[.pointer (some ⟨r, 0, none⟩), lv, .int .i64 (s.fin : Int), ov, .slice WA wn wc, .slice TA tn tc, .bool s.closed, .bool s.hung] 227 (0, 0)) ∧
    IsRdr w r s.ws s.cl S ∧ (∀ b, S b → RO b) ∧
    lk.length = s.line.length ∧ OffS w 4 lob lv s.line.length (callsV lk s.line) ∧ KeysRd w (fun c => c.key) lk s.line ∧ (∀ k ∈ lk, KeyIn RO k) ∧
    OutAt1 w RO ov s.out ∧
    s.wr.length = wn ∧ w.ownsRow base 5 1 (.slice WA wn wc) wn (vals .u8 s.wr) ∧
    tk.length = s.led.length ∧ s.led.length = tn ∧ w.ownsRow base 120 3 (.slice TA tn tc) tn (toksV tk s.led) ∧ KeysRd w (fun t => t.key) tk s.led ∧ (∀ k ∈ tk, KeyIn RO k) ∧
    (∀ b, RO b → some b ∉ L ∧ base ≤ b ∧ b < w.heap.size) ∧ ∀ b, some b ∈ L → base ≤ b ∧ b < w.heap.size
/-- what is right of it, in plain Lean -/
def CInv (s : CSt) : Prop := (∀ x ∈ s.ws, x < 256) ∧ (∀ c ∈ s.line, NormC c.op c.pol c.key c.num) ∧ (∀ c, s.out = some c → NormC c.op c.pol c.key c.num) ∧ (∀ x ∈ s.wr, x < 256) ∧ ∀ t ∈ s.led, ∀ x ∈ t.key, x < 256
theorem KeysRd.gbk {α : Type} {w w' : World} {T RO : Nat → Prop} {key : α → List Nat} {ks : List KRef} {l : List α} (h : KeysRd w key ks l) (hk : ∀ k ∈ ks, KeyIn RO k) (g : GB w w' T) (hT : ∀ b, RO b → ¬ T b) : KeysRd w' key ks l := fun p hp => ⟨(h p hp).1, g.rd (h p hp).2 (fun a ha => hT _ (hk p.1 (List.of_mem_zip hp).1 a ha))⟩
theorem OutAt1.gbk {w w' : World} {T RO : Nat → Prop} {ov : Value} {c : Option CCall} (h : OutAt1 w RO ov c) (g : GB w w' T) (hT : ∀ b, RO b → ¬ T b) : OutAt1 w' RO ov c := by
  cases c with
  | none => exact h
  | some c =>
    obtain ⟨o, k, h1, h2, h3, h4, h5, h6⟩ := h
    exact ⟨o, k, h1, g.blk h2 (hT o h5), h3, g.rd h4 (fun a ha => hT _ (h6 a ha)), h5, h6⟩
/-- somebody else wrote -/
theorem ConnAt.gb {w w' : World} {base gc r : Nat} {L : List (Option Nat)} {RO T : Nat → Prop} {s : CSt} (h : ConnAt w base L RO gc r s) (g : GB w w' T) (hT : ∀ b, T b → some b ∉ L ∧ ¬ RO b) : ConnAt w' base L RO gc r s := by
  obtain ⟨S, lv, ov, lob, lk, tk, WA, TA, wn, wc, tn, tc, h1, h2, h3, h4, h5, h6, h7, h8, h9, h10, h11, h12, h13, h14, h15, h16, h17, h18, h19⟩ := h
  have hL : ∀ b, some b ∈ L → ¬ T b := fun b hb e => (hT b e).1 hb
  have hR : ∀ b, RO b → ¬ T b := fun b hb e => (hT b e).2 hb
  refine ⟨S, lv, ov, lob, lk, tk, WA, TA, wn, wc, tn, tc, h1, h2, g.blk h3 (hL gc (by rw [h1]; simp)), ?_, h5, h6, h7.gb g (fun b e => hL b (by rw [h1, ← e]; simp)), h8.gbk h9 g hR, h9, h10.gbk g hR, h11, g.own h12 (fun b e => hL b (by rw [h1, ← e]; simp)), h13, h14, g.own h15 (fun b e => hL b (by rw [h1, ← e]; simp)), h16.gbk h17 g hR, h17, fun b hb => ⟨(h18 b hb).1, (h18 b hb).2.1, Nat.lt_of_lt_of_le (h18 b hb).2.2 g.size⟩, fun b hb => ⟨(h19 b hb).1, Nat.lt_of_lt_of_le (h19 b hb).2 g.size⟩⟩
  exact IsRdr.gb h4 g (hL r (by rw [h1]; simp)) (fun b hb => hR b (h5 b hb))
theorem ConnAt.ext {w w' : World} {base gc r : Nat} {L : List (Option Nat)} {RO : Nat → Prop} {s : CSt} (h : ConnAt w base L RO gc r s) (x : Ext w w') : ConnAt w' base L RO gc r s := h.gb (GB.of_ext (fun _ => False) x) (fun _ e => e.elim)
/-- it went on -/
def ConnGo (w : World) (base : Nat) (L : List (Option Nat)) (RO : Nat → Prop) (gc r : Nat) (s : CSt) (w' : World) : Prop :=
  ∃ L' RO', ConnAt w' base L' RO' gc r s ∧ GB w w' (fun b => some b ∈ L) ∧ (∀ b, some b ∈ L' → some b ∈ L ∨ w.heap.size ≤ b) ∧ (∀ b, RO' b → RO b ∨ some b ∈ L ∨ w.heap.size ≤ b)
theorem apart_new {gc r : Nat} (h : gc ≠ r) : Apart [some gc, some r, none, none, none] := by
  refine List.pairwise_cons.2 ⟨fun y hy b e => ?_, List.pairwise_cons.2 ⟨fun y hy b e => ?_, List.pairwise_cons.2 ⟨(fun y hy b e => by cases e), List.pairwise_cons.2 ⟨(fun y hy b e => by cases e), List.pairwise_cons.2 ⟨(fun y hy => by cases hy), List.Pairwise.nil⟩⟩⟩⟩⟩
  · injection e with e
    subst e
    simp at hy
    rcases hy with rfl | rfl
    · simpa using fun e => h e.symm
    · simp
  · simp at hy
    subst hy
    simp
set_option maxHeartbeats 1000000 in
theorem cnew_any (w : World) : Calls Tryz.prog 99 #[] w fun e w' => ∃ gc r L RO, e = .returned (.pointer (some ⟨gc, 0, none⟩)) ∧ ConnAt w' w.heap.size L RO gc r cInit ∧ Ext w w' := by
  go_enter Tryz.func99, Tryz.ntmps99
  go_wp2_with fail
  refine (frNew w).mono ?_
  rintro e w1 ⟨rfl, hr, x1, hs1⟩
  go_wp2_with fail
  go_ret
  have hb := blk_new w1 (.cells #[.pointer (some ⟨w.heap.size, 0, none⟩), .slice none 0 0, .int .i64 0, .pointer none, .slice none 0 0, .slice none 0 0, .bool false, .bool false] 227)
  have xa : Ext w1 (w1.alloc (.cells #[.pointer (some ⟨w.heap.size, 0, none⟩), .slice none 0 0, .int .i64 0, .pointer none, .slice none 0 0, .slice none 0 0, .bool false, .bool false] 227)) := (Ext.refl w1).alloc _
  refine ⟨w1.heap.size, w.heap.size, _, fun _ => False, rfl, ⟨fun _ => False, .slice none 0 0, .pointer none, none, [], [], none, none, 0, 0, 0, 0, rfl, apart_new (by omega), hb, IsRdr.gb hr (GB.of_ext (fun _ => False) xa) (fun e => e) (fun _ e => e.elim), fun _ e => e, rfl, offS_nil _ _, fun p hp => by simp at hp, fun k hk => by simp at hk, rfl, rfl, World.ownsRow_nil _ _ _ _, rfl, rfl, World.ownsRow_nil _ _ _ _, fun p hp => by simp at hp, fun k hk => by simp at hk, fun _ e => e.elim, fun b hb => ?_⟩, x1.trans xa⟩
  have := xa.size
  rw [World.size_alloc]
  simp [Value.ownBlock] at hb
  omega
theorem apart5 {gc r : Nat} {a b c : Option Nat} (h : Apart [some gc, some r, a, b, c]) :
    gc ≠ r ∧ (∀ q, a = some q → q ≠ gc ∧ q ≠ r) ∧ (∀ q, b = some q → q ≠ gc ∧ q ≠ r ∧ a ≠ some q) ∧ ∀ q, c = some q → q ≠ gc ∧ q ≠ r ∧ a ≠ some q ∧ b ≠ some q := by
  obtain ⟨h1, h⟩ := List.pairwise_cons.1 h
  obtain ⟨h2, h⟩ := List.pairwise_cons.1 h
  obtain ⟨h3, h⟩ := List.pairwise_cons.1 h
  obtain ⟨h4, -⟩ := List.pairwise_cons.1 h
  refine ⟨fun e => h1 (some r) (by simp) gc rfl (by rw [e]), fun q e => ⟨fun e2 => h1 a (by simp) gc rfl (by rw [e, e2]), fun e2 => h2 a (by simp) r rfl (by rw [e, e2])⟩, fun q e => ⟨fun e2 => h1 b (by simp) gc rfl (by rw [e, e2]), fun e2 => h2 b (by simp) r rfl (by rw [e, e2]), fun e2 => h3 b (by simp) q e2 e⟩, fun q e => ⟨fun e2 => h1 c (by simp) gc rfl (by rw [e, e2]), fun e2 => h2 c (by simp) r rfl (by rw [e, e2]), fun e2 => h3 c (by simp) q e2 e, fun e2 => h4 c (by simp) q e2 e⟩⟩
theorem apart5_mk {gc r : Nat} {a b c : Option Nat} (h1 : gc ≠ r) (h2 : ∀ q, a = some q → q ≠ gc ∧ q ≠ r) (h3 : ∀ q, b = some q → q ≠ gc ∧ q ≠ r ∧ a ≠ some q) (h4 : ∀ q, c = some q → q ≠ gc ∧ q ≠ r ∧ a ≠ some q ∧ b ≠ some q) : Apart [some gc, some r, a, b, c] := by
  refine List.pairwise_cons.2 ⟨fun y hy q e => ?_, List.pairwise_cons.2 ⟨fun y hy q e => ?_, List.pairwise_cons.2 ⟨fun y hy q e => ?_, List.pairwise_cons.2 ⟨fun y hy q e => ?_, List.pairwise_cons.2 ⟨(fun y hy => by cases hy), List.Pairwise.nil⟩⟩⟩⟩⟩
  · injection e with e
    subst e
    simp at hy
    rcases hy with rfl | rfl | rfl | rfl
    · simpa using fun e => h1 e.symm
    · exact fun e => (h2 _ e).1 rfl
    · exact fun e => (h3 _ e).1 rfl
    · exact fun e => (h4 _ e).1 rfl
  · injection e with e
    subst e
    simp at hy
    rcases hy with rfl | rfl | rfl
    · exact fun e => (h2 _ e).2 rfl
    · exact fun e => (h3 _ e).2.1 rfl
    · exact fun e => (h4 _ e).2.1 rfl
  · simp at hy
    rcases hy with rfl | rfl
    · exact fun e2 => (h3 _ e2).2.2 e
    · exact fun e2 => (h4 _ e2).2.2.1 e
  · simp at hy
    subst hy
    exact fun e2 => (h4 _ e2).2.2.2 e
theorem mem5 {b gc r : Nat} {x y z : Option Nat} (h : some b ∈ [some gc, some r, x, none, z]) : some b ∈ [some gc, some r, x, y, z] := by
  rcases List.mem_cons.1 h with h | h
  · rw [h]; exact List.mem_cons_self
  · refine List.mem_cons_of_mem _ ?_
    rcases List.mem_cons.1 h with h | h
    · rw [h]; exact List.mem_cons_self
    · refine List.mem_cons_of_mem _ ?_
      rcases List.mem_cons.1 h with h | h
      · rw [h]; exact List.mem_cons_self
      · refine List.mem_cons_of_mem _ (List.mem_cons_of_mem _ ?_)
        rcases List.mem_cons.1 h with h | h
        · cases h
        · exact h
set_option maxHeartbeats 1000000 in
/-- what is to be written is the caller's now -/
theorem ctake_any (w : World) (base gc r : Nat) (L : List (Option Nat)) (RO : Nat → Prop) (s : CSt) (h : ConnAt w base L RO gc r s) :
    Calls Tryz.prog 101 #[.pointer (some ⟨gc, 0, none⟩)] w fun e w' => ∃ WA wc L', e = .returned (.slice WA s.wr.length wc) ∧ ConnAt w' base L' RO gc r { s with wr := [] } ∧ GB w w' (· = gc) ∧ (∀ b, some b ∈ L' → some b ∈ L) ∧
      w'.ownsRow base 5 1 (.slice WA s.wr.length wc) s.wr.length (vals .u8 s.wr) ∧ ∀ b, (Value.slice WA s.wr.length wc).ownBlock = some b → some b ∉ L' ∧ ¬ RO b := by
  obtain ⟨S, lv, ov, lob, lk, tk, WA, TA, wn, wc, tn, tc, h1, h2, h3, h4, h5, h6, h7, h8, h9, h10, h11, h12, h13, h14, h15, h16, h17, h18, h19⟩ := h
  rw [h1] at h2
  obtain ⟨a1, a2, a3, a4⟩ := apart5 h2
  have c4 : w.cell? ⟨gc, 4, none⟩ = some (.slice WA wn wc) := blk_cell h3 4
  have f4 := blk_frozen h3 4
  have g : GB w (w.setCell ⟨gc, 4, none⟩ (.slice none 0 0)) (· = gc) := (GB.refl w (· = gc)).set gc 4 _ (.inl rfl)
  have hR : ∀ b, RO b → ¬ b = gc := fun b hb e => (h18 b hb).1 (by rw [h1, e]; simp)
  have Fin := Lib.hid (show ∃ L', ConnAt (w.setCell ⟨gc, 4, none⟩ (.slice none 0 0)) base L' RO gc r { s with wr := [] } ∧ (∀ b, some b ∈ L' → some b ∈ L) ∧ ∀ b, (Value.slice WA wn wc).ownBlock = some b → some b ∉ L' ∧ ¬ RO b from by
    refine ⟨[some gc, some r, lob, none, (Value.slice TA tn tc).ownBlock], ⟨S, lv, ov, lob, lk, tk, none, TA, 0, 0, tn, tc, rfl, apart5_mk a1 a2 (fun q e => by cases e) (fun q e => ⟨(a4 q e).1, (a4 q e).2.1, (a4 q e).2.2.1, fun e => by cases e⟩), blk_set h3 4 _, IsRdr.gb h4 g (fun e => a1 e.symm) (fun b hb => hR b (h5 b hb)), h5, h6, h7.gb g (fun b e => (a2 b e).1), h8.gbk h9 g hR, h9, h10.gbk g hR, rfl, World.ownsRow_nil _ _ _ _, h13, h14, g.own h15 (fun b e => (a4 b e).1), h16.gbk h17 g hR, h17, fun b hb => ⟨fun e => (h18 b hb).1 (by rw [h1]; exact mem5 e), (h18 b hb).2.1, by simpa using (h18 b hb).2.2⟩, fun b hb => ⟨(h19 b (by rw [h1]; exact mem5 hb)).1, by simpa using (h19 b (by rw [h1]; exact mem5 hb)).2⟩⟩, (fun b hb => by rw [h1]; exact mem5 hb), fun b e => ⟨fun hb => ?_, fun hb => (h18 b hb).1 (by rw [h1, ← e]; simp)⟩⟩
    obtain ⟨e1, e2, e3⟩ := a3 b e
    simp at hb
    rcases hb with hb | hb | hb | hb
    · exact e1 hb
    · exact e2 hb
    · exact e3 hb.symm
    · exact (a4 b hb.symm).2.2.2 e)
  have Own := Lib.hid (g.own h12 (fun b e => (a3 b e).1))
  rw [h11]
  clear h1 h2 h3 h4 h5 h6 h7 h8 h9 h10 h12 h13 h14 h15 h16 h17 h18 h19 a1 a2 a3 a4 hR
  go_enter Tryz.func101, Tryz.ntmps101
  go_wp2_with fail
  go_ret
  obtain ⟨L', k1, k2, k3⟩ := Fin.out
  exact ⟨WA, wc, L', rfl, k1, g, k2, Own.out, k3⟩
/-- a list of tokens that a call made: its row, and each key -/
def TokNew (w : World) (base : Nat) (A : Option Addr) (n c : Nat) (l : List CTok) (ks : List KRef) : Prop :=
  ks.length = l.length ∧ l.length = n ∧ w.ownsRow base 120 3 (.slice A n c) n (toksV ks l) ∧ ∀ (i : Nat) (q : KRef) (e : CTok), ks[i]? = some q → l[i]? = some e → w.ownsRow base 5 1 (.slice q.1 e.key.length q.2) e.key.length (vals .u8 e.key) ∧ ∀ g, (Value.slice q.1 e.key.length q.2).ownBlock = some g → (Value.slice A n c).ownBlock ≠ some g
theorem TokNew.nil (w : World) (base : Nat) : TokNew w base none 0 0 [] [] := ⟨rfl, rfl, World.ownsRow_nil _ _ _ _, fun i q e h => by simp at h⟩
theorem TokNew.ext {w w' : World} {base : Nat} {A : Option Addr} {n c : Nat} {l : List CTok} {ks : List KRef} (h : TokNew w base A n c l ks) (x : Ext w w') : TokNew w' base A n c l ks :=
  ⟨h.1, h.2.1, own_ext h.2.2.1 x, fun i q e h1 h2 => ⟨own_ext (h.2.2.2 i q e h1 h2).1 x, (h.2.2.2 i q e h1 h2).2⟩⟩
theorem rd_own3 {w : World} {base s : Nat} {e : TypeId} {A : Option Addr} {n c : Nat} {vs : List Value} (h : w.ownsRow base e s (.slice A n c) n vs) : Rd w A vs := fun hne => by
  rcases h.2 with ⟨h1, h2⟩ | ⟨g, cap, cur, h1, hb, hg, _⟩
  · have h3 := h.1
    rw [h2, Nat.zero_mul] at h3
    exact absurd (List.length_eq_zero_iff.1 h3) hne
  · injection h1 with h1 _ _
    refine ⟨g, 0, h1, fun j u hu => ?_⟩
    subst h1
    have hj := (List.getElem?_eq_some_iff.1 hu).1
    rw [Nat.zero_add]
    rw [h.cellAt j (by rw [← h.1]; exact hj)]
    exact hu
theorem TokNew.rd {w : World} {base : Nat} {A : Option Addr} {n c : Nat} {l : List CTok} {ks : List KRef} (h : TokNew w base A n c l ks) : TokRd w A l ks := by
  refine ⟨h.1, rd_own3 h.2.2.1, fun p hp => ?_⟩
  obtain ⟨i, hi⟩ := List.getElem?_of_mem hp
  obtain ⟨h1, h2⟩ := List.getElem?_zip_eq_some.1 hi
  have := (h.2.2.2 i p.1 p.2 h1 h2).1
  exact ⟨own_cap this, Rd.of_own this⟩
/-- one more -/
theorem TokNew.snoc {w w4 w5 w6 : World} {base b4 k c cb m c4 : Nat} {A A4 B : Option Addr} {l : List CTok} {ks : List KRef} {x : List Nat} {p v : Int} (h : TokNew w base A k c l ks) (x4 : Ext w w4) (hm : x.length = m)
    (o4 : w4.ownsRow b4 5 1 (.slice A4 m c4) m (vals .u8 x)) (hb : w.heap.size ≤ b4) (hbw : base ≤ w.heap.size) (x5 : Ext w4 w5)
    (o6 : w6.ownsRow base 120 3 (.slice B (k + 1) cb) (k + 1) (toksV ks l ++ [.int .i64 p, .slice A4 m c4, .int .i64 v])) (g6 : w5.grownBy w6 (Value.slice A k c).ownBlock)
    (b6 : (Value.slice B (k + 1) cb).ownBlock = (Value.slice A k c).ownBlock ∨ (Value.slice B (k + 1) cb).ownBlock = some w5.heap.size) : TokNew w6 base B (k + 1) cb (l ++ [⟨p, x, v⟩]) (ks ++ [(A4, c4)]) := by
  subst hm
  obtain ⟨h1, h2, h3, h4⟩ := h
  have hne : (Value.slice A4 x.length c4).ownBlock = none ∨ (Value.slice A4 x.length c4).ownBlock ≠ (Value.slice A k c).ownBlock := by
    cases e : (Value.slice A4 x.length c4).ownBlock with
    | none => exact .inl rfl
    | some g => exact .inr fun e2 => by have := (o4.lt g e).1; have := (h3.lt g e2.symm).2; omega
  have o4' : w6.ownsRow b4 5 1 (.slice A4 x.length c4) x.length (vals .u8 x) := (own_ext o4 x5).kept g6 hne
  refine ⟨by simp [h1], by simp [h2], by unfold toksV at o6 ⊢; rw [zipV_snoc tokC h1 (A4, c4) ⟨p, x, v⟩]; exact o6, fun i q e hq he => ?_⟩
  rcases Nat.lt_or_ge i l.length with hi | hi
  · rw [List.getElem?_append_left (by rw [h1]; exact hi)] at hq
    rw [List.getElem?_append_left hi] at he
    obtain ⟨k1, k2⟩ := h4 i q e hq he
    refine ⟨(own_ext (own_ext k1 x4) x5).kept g6 ?_, fun g hg hg2 => ?_⟩
    · cases e9 : (Value.slice q.1 e.key.length q.2).ownBlock with
      | none => exact .inl rfl
      | some g => exact .inr fun e2 => k2 g e9 e2.symm
    · rcases b6 with b6 | b6
      · exact k2 g hg (b6 ▸ hg2)
      · rw [b6] at hg2
        injection hg2 with hg2
        have := (k1.lt g hg).2
        have := x4.size; have := x5.size
        omega
  · rw [List.getElem?_append_right (by rw [h1]; exact hi)] at hq
    rw [List.getElem?_append_right hi] at he
    have hz : i - ks.length = 0 := by
      have := (List.getElem?_eq_some_iff.1 hq).1
      simp at this
      omega
    rw [hz] at hq
    rw [← h1, hz] at he
    simp at hq he
    subst hq he
    refine ⟨own_base o4' (Nat.le_trans hbw hb), fun g hg hg2 => ?_⟩
    rcases b6 with b6 | b6
    · rw [b6] at hg2
      have := (h3.lt g hg2).2; have := (o4.lt g hg).1
      omega
    · rw [b6] at hg2
      injection hg2 with hg2
      have := (o4.lt g hg).2
      have := x5.size
      omega
theorem step_app_tok {ops : Array Oper} {o : Oper} {a : Act} {K : Act → World → Prop} {Q : Exit → Act → World → Prop} {E : Prop} (w : World) (hgd : o.guard = none) (s x : Operand)
    (ho : o.op = .call { callee := .builtin .append, args := #[s, x], argTypes := #[117, 117] })
    (base : Nat) {B : Option Addr} {n cb : Nat} {xs : List Value} (hs : a.eval s = .slice B n cb) (hown : w.ownsRow base 120 3 (.slice B n cb) n xs)
    {A : Option Addr} {c : Nat} {y z u : Value} (hx : a.eval x = .slice A 1 c) (hr : Rd w A [y, z, u]) (hy : y.oneCell' = true) (hz : z.oneCell' = true) (hu : u.oneCell' = true) (hb : n ≤ 100000) (hbase : base ≤ w.heap.size)
    (h : ∀ B' cb' w', w'.ownsRow base 120 3 (.slice B' (n + 1) cb') (n + 1) (xs ++ [y, z, u]) → w.grownBy w' (Value.slice B n cb).ownBlock →
      ((Value.slice B' (n + 1) cb').ownBlock = (Value.slice B n cb).ownBlock ∨ (Value.slice B' (n + 1) cb').ownBlock = some w.heap.size) → K (a.put o.dst (.slice B' (n + 1) cb')) w') :
    if Region.wanted o (yielded ops a.tmps) = true then Oper.wp Tryz.prog o a w K Q else E := by
  have hw : Region.wanted o (yielded ops a.tmps) = true := by simp [Region.wanted, hgd]
  rw [if_pos hw]
  obtain ⟨i0, hi, hz0, hz1, hz2⟩ := info_parts tk_info
  exact wp_append_rd w s x 117 ho base 120 Tryz.underlying117 hi hz0 hz1 hz2 rfl (by decide) hs hown hx (m := 1) (news := [y, z, u]) rfl hr (by intro v hv; simp at hv; rcases hv with rfl | rfl | rfl <;> assumption) (by unfold maxLen; omega) (by omega) hbase h
/-- Ledger's answer -/
def LedR (l : List CTok) (w : World) (e : Ending) (w' : World) : Prop := ∃ A c ks, e = .returned (.slice A l.length c) ∧ TokNew w' w.heap.size A l.length c l ks ∧ Ext w w'
set_option maxHeartbeats 4000000 in
set_option maxRecDepth 100000 in
theorem cledger_any (w : World) (base gc r : Nat) (L : List (Option Nat)) (RO : Nat → Prop) (s : CSt) (h : ConnAt w base L RO gc r s) (hn : s.led.length ≤ 100000) (hkl : ∀ t ∈ s.led, t.key.length ≤ 5000) :
    Calls Tryz.prog 71 #[.pointer (some ⟨gc, 0, none⟩)] w (LedR s.led w) := by
  obtain ⟨S, lv, ov, lob, lk, tk, WA, A, wn, wc, n, c, -, -, h3, -, -, -, -, -, -, -, -, -, h13, h14, h15, h16, -⟩ := h
  have c5 : w.cell? ⟨gc, 5, none⟩ = some (.slice A n c) := blk_cell h3 5
  have HE := Lib.hid (show TokRd w A s.led tk from ⟨h13, rd_own3 h15, h16⟩)
  obtain ⟨l, Hl⟩ : ∃ l, Hid (s.led = l) := ⟨_, rfl⟩
  rw [Hl.out] at hn hkl h14 HE ⊢
  have Hn := Lib.hid h14; have HK := Lib.hid hkl
  have hn' : n ≤ 100000 := by omega
  clear h3 h13 h14 h15 h16 hkl hn
  go_enter Tryz.func71, Tryz.ntmps71
  go_wp2_with fail
  go_loopw [3, 13] (fun v i wr => ∃ (k : Nat) (B : Option Addr) (cb : Nat) (kk : List KRef), k ≤ n ∧ i = .int .i64 (k : Int) ∧ v = .slice B k cb ∧ TokNew wr w.heap.size B k cb (l.take k) kk ∧ Ext w wr) (fun _ i _ => n - (intOf i).toNat)
  case atStart => exact ⟨0, none, 0, [], Nat.zero_le _, rfl, rfl, TokNew.nil _ _, Ext.refl w⟩
  case round =>
    obtain ⟨k, B, cb, kk, hk, rfl, rfl, hN, hx⟩ := hrel
    by_cases hlt : k < n
    · obtain ⟨e, he⟩ : ∃ e, l[k]? = some e := ⟨_, List.getElem?_eq_getElem (by rw [Hn.out]; exact hlt)⟩
      obtain ⟨b, off, K, kc, hA, hks, d0, d1, d2, hkc, hkr⟩ := (HE.out.ext hx).at_ he
      have hok := HK.out e (List.mem_of_getElem? he)
      obtain ⟨p, x, v⟩ := e
      dsimp only at d0 d1 d2 hkc hkr hok
      subst hA
      obtain ⟨m, Hm⟩ : ∃ m, Hid (x.length = m) := ⟨_, rfl⟩
      rw [Hm.out] at d1 hkc
      have hm : m ≤ 5000 := by rw [← Hm.out]; exact hok
      have HT := Lib.hid (take_succ_of he)
      have HN := Lib.hid hN; have HX := Lib.hid hx
      have hsz : w.heap.size ≤ wr.heap.size := hx.size
      obtain ⟨W, hW⟩ : ∃ W, wr.alloc (.cells #[.int .i64 p, .slice K m kc, .int .i64 v] 120) = W := ⟨_, rfl⟩
      have xW : Ext wr W := by rw [← hW]; exact (Ext.refl wr).alloc _
      have KB := Lib.hid (show W.heap[wr.heap.size]? = some (.cells #[.int .i64 p, .slice K m kc, .int .i64 v] 120 (0, 0)) by rw [← hW]; exact blk_new wr _)
      have CL := Lib.hid (fun u (y : Ext W u) => clone_any K m kc x u Hm.out (by omega) (hkr.ext (xW.trans y)))
      have XW := Lib.hid xW
      have NW := Lib.hid (hN.ext xW)
      have hWs : wr.heap.size ≤ W.heap.size := xW.size
      clear he hok hkr hN hx xW hks
      go_upto_region 7 with fail
      (try rw [hW])
      clear hW d0 d1 d2
      have e0 : W.cell? ⟨wr.heap.size, 0, none⟩ = some (.int .i64 p) := blk_cell KB.out 0
      have e1 : W.cell? ⟨wr.heap.size, 1, none⟩ = some (.slice K m kc) := blk_cell KB.out 1
      have e2 : W.cell? ⟨wr.heap.size, 2, none⟩ = some (.int .i64 v) := blk_cell KB.out 2
      go_region_held3 (fun u => u.cell? ⟨wr.heap.size, 0, none⟩ = some (.int .i64 p) ∧ u.cell? ⟨wr.heap.size, 1, none⟩ = some (.slice K m kc) ∧ u.cell? ⟨wr.heap.size, 2, none⟩ = some (.int .i64 v))
        (((try dsimp only); refine ⟨?_, ?_, ?_⟩ <;> first | (with_reducible assumption) | (with_reducible exact drew_cell e0) | (with_reducible exact drew_cell e1) | (with_reducible exact drew_cell e2) | (with_reducible exact ext_cell ((Ext.refl _).alloc _) y0) | (with_reducible exact ext_cell ((Ext.refl _).alloc _) y1) | (with_reducible exact ext_cell ((Ext.refl _).alloc _) y2) | (with_reducible exact g6.cell (ext_cell ((Ext.refl _).alloc _) y0) NE.symm) | (with_reducible exact g6.cell (ext_cell ((Ext.refl _).alloc _) y1) NE.symm) | (with_reducible exact g6.cell (ext_cell ((Ext.refl _).alloc _) y2) NE.symm)))
        (first
          | (go_at_call 67; (with_reducible refine (CL.out _ (by first | exact Ext.refl W | exact (Ext.refl W).drew)).mono ?_); rintro e w4 ⟨A4, c4, rfl, ho4, x4⟩; rw [Hm.out] at ho4 ⊢; have HO4 := Lib.hid ho4; have X4 := Lib.hid x4; have y0 := ext_cell x4 (drew_cell e0); have y1 := ext_cell x4 (drew_cell e1); have y2 := ext_cell x4 (drew_cell e2); clear ho4 x4)
          | (refine step_app_tok (w4.alloc (.cells #[.int .i64 p, .slice A4 m c4, .int .i64 v] 120)) rfl (.tmp 17) (.tmp 26) rfl w.heap.size (by rfl) (own_ext NW.out.2.2.1 (((Ext.refl W).drew.trans X4.out).alloc _)) (by rfl) (show Rd _ _ _ from rd_newk w4 [.int .i64 p, .slice A4 m c4, .int .i64 v] _ rfl) rfl rfl rfl (by omega) (Nat.le_trans (Nat.le_trans hsz hWs) (((Ext.refl W).drew.trans X4.out).alloc _).size) ?_; intro B' cb' w6 o6 g6 b6; have NE : (Value.slice B k cb).ownBlock ≠ some wr.heap.size := fun e => Nat.lt_irrefl _ (Nat.lt_of_lt_of_le (HN.out.2.2.1.lt _ e).2 (Nat.le_refl _))))
      all_goals
        have x6 : Ext w w6 := ((((HX.out.trans XW.out).drew.trans X4.out).alloc _).grown g6 (fun q e => (HN.out.2.2.1.lt q e).1))
        go_wp2_with fail
        go_roundw
        case rel => exact ⟨k + 1, B', cb', kk ++ [(A4, c4)], hlt, by go_num, rfl, by rw [HT.out]; exact NW.out.snoc (w4 := w4) ((Ext.refl W).drew.trans X4.out) Hm.out HO4.out (Nat.le_refl _) (Nat.le_trans hsz hWs) ((Ext.refl w4).alloc _) o6 g6 b6, x6⟩
        case measure => simp [intOf]; omega
    · obtain rfl : k = n := by omega
      go_wp2_with fail
      go_ret
      rw [List.take_of_length_le (by rw [Hn.out]; exact Nat.le_refl _)] at hN
      exact ⟨B, cb, kk, by rw [Hn.out]; rfl, by rw [Hn.out]; exact hN, hx⟩

theorem mem5' {b gc r : Nat} {x y y' z : Option Nat} (h : some b ∈ [some gc, some r, x, y', z]) : some b ∈ [some gc, some r, x, y, z] ∨ y' = some b := by
  by_cases e : y' = some b
  · exact .inr e
  · refine .inl (mem5 (y := y) ?_)
    rcases List.mem_cons.1 h with h | h
    · rw [h]; exact List.mem_cons_self
    · refine List.mem_cons_of_mem _ ?_
      rcases List.mem_cons.1 h with h | h
      · rw [h]; exact List.mem_cons_self
      · refine List.mem_cons_of_mem _ ?_
        rcases List.mem_cons.1 h with h | h
        · rw [h]; exact List.mem_cons_self
        · refine List.mem_cons_of_mem _ ?_
          rcases List.mem_cons.1 h with h | h
          · exact absurd h.symm e
          · exact List.mem_cons_of_mem _ h
theorem own_put_gc {w : World} {base gc i : Nat} {A : Option Addr} {n c : Nat} {xs : List Value} {v : Value} (h : w.ownsRow base 5 1 (.slice A n c) n xs) (hn : (Value.slice A n c).ownBlock ≠ some gc) : (w.setCell ⟨gc, i, none⟩ v).ownsRow base 5 1 (.slice A n c) n xs := ((GB.refl w (· = gc)).set gc i v (.inl rfl)).own h (fun b e e2 => hn (by rw [e, e2]))
/-- what is to be written, and what it may become -/
theorem ConnAt.write {w : World} {base gc r : Nat} {L : List (Option Nat)} {RO : Nat → Prop} {s : CSt} (h : ConnAt w base L RO gc r s) :
    ∃ (WA : Option Addr) (wc : Nat), w.cell? ⟨gc, 4, none⟩ = some (.slice WA s.wr.length wc) ∧ w.cell? ⟨gc, 7, none⟩ = some (.bool s.hung) ∧ w.frozen? ⟨gc, 4, none⟩ = false ∧ (Value.slice WA s.wr.length wc).ownBlock ≠ some gc ∧ w.ownsRow base 5 1 (.slice WA s.wr.length wc) s.wr.length (vals .u8 s.wr) ∧ base ≤ w.heap.size ∧
      ∀ (B : Option Addr) (n' cb : Nat) (w3 : World) (ys : List Nat), (s.wr ++ ys).length = n' → w3.ownsRow base 5 1 (.slice B n' cb) n' (vals .u8 (s.wr ++ ys)) → GB w w3 (fun b => (Value.slice WA s.wr.length wc).ownBlock = some b) → (∀ b, (Value.slice B n' cb).ownBlock = some b → (Value.slice WA s.wr.length wc).ownBlock = some b ∨ w.heap.size ≤ b) →
        ConnGo w base L RO gc r { s with wr := s.wr ++ ys } (w3.setCell ⟨gc, 4, none⟩ (.slice B n' cb)) := by
  obtain ⟨S, lv, ov, lob, lk, tk, WA, TA, wn, wc, tn, tc, h1, h2, h3, h4, h5, h6, h7, h8, h9, h10, h11, h12, h13, h14, h15, h16, h17, h18, h19⟩ := h
  subst h11
  rw [h1] at h2
  obtain ⟨a1, a2, a3, a4⟩ := apart5 h2
  have hgcl := (h19 gc (by rw [h1]; simp))
  refine ⟨WA, wc, blk_cell h3 4, blk_cell h3 7, blk_frozen h3 4, fun e => (a3 gc e).1 rfl, h12, Nat.le_trans hgcl.1 (Nat.le_of_lt hgcl.2), fun B n' cb w3 ys hl ho g hb => ?_⟩
  have g2 : GB w (w3.setCell ⟨gc, 4, none⟩ (.slice B n' cb)) (fun b => b = gc ∨ (Value.slice WA s.wr.length wc).ownBlock = some b) := (g.more (fun b _ e => .inr e)).trans ((GB.refl w3 (· = gc)).set gc 4 _ (.inl rfl)) (fun b e => .inl (.inl e))
  have hwL : ∀ b, (Value.slice WA s.wr.length wc).ownBlock = some b → some b ∈ L := fun b e => by rw [h1, ← e]; simp
  have hR : ∀ b, RO b → ¬ (b = gc ∨ (Value.slice WA s.wr.length wc).ownBlock = some b) := fun b hb e => (h18 b hb).1 (e.elim (fun e => by rw [h1, e]; simp) (hwL b))
  have hsz := g.size
  have hnew : ∀ q, (Value.slice B n' cb).ownBlock = some q → q ≠ gc ∧ q ≠ r ∧ lob ≠ some q := fun q e => (hb q e).elim (fun e => a3 q e) (fun e => ⟨fun e2 => by omega, fun e2 => by have := (h19 r (by rw [h1]; simp)).2; omega, fun e2 => by have := (h19 q (by rw [h1, ← e2]; simp)).2; omega⟩)
  have hnewT : ∀ q, (Value.slice TA tn tc).ownBlock = some q → (Value.slice B n' cb).ownBlock ≠ some q := fun q e e2 => (hb q e2).elim (fun e3 => (a4 q e).2.2.2 e3) (fun e3 => by have := (h19 q (by rw [h1, ← e]; simp)).2; omega)
  refine ⟨[some gc, some r, lob, (Value.slice B n' cb).ownBlock, (Value.slice TA tn tc).ownBlock], RO, ⟨S, lv, ov, lob, lk, tk, B, TA, n', cb, tn, tc, rfl, apart5_mk a1 a2 hnew (fun q e => ⟨(a4 q e).1, (a4 q e).2.1, (a4 q e).2.2.1, hnewT q e⟩), blk_set (g.blk h3 (fun e => (a3 gc e).1 rfl)) 4 _, IsRdr.gb h4 g2 (fun e => e.elim (fun e => a1 e.symm) (fun e => (a3 r e).2.1 rfl)) (fun b hb => hR b (h5 b hb)), h5, h6, h7.gb g2 (fun b e e2 => e2.elim (fun e2 => (a2 b e).1 e2) (fun e2 => (a3 b e2).2.2 e)), h8.gbk h9 g2 hR, h9, h10.gbk g2 hR, hl, (own_put_gc ho (fun e => (hnew gc e).1 rfl)), h13, h14, g2.own h15 (fun b e e2 => e2.elim (fun e2 => (a4 b e).1 e2) (fun e2 => (a4 b e).2.2.2 e2)), h16.gbk h17 g2 hR, h17, fun b hbR => ⟨fun e => ?_, (h18 b hbR).2.1, Nat.lt_of_lt_of_le (h18 b hbR).2.2 g2.size⟩, fun b hbL => ?_⟩, g2.more (fun b _ e => e.elim (fun e => by rw [h1, e]; simp) (hwL b)), fun b hbL => ?_, fun b e => .inl e⟩
  · rcases mem5' (y := (Value.slice WA s.wr.length wc).ownBlock) e with e | e
    · exact (h18 b hbR).1 (by rw [h1]; exact e)
    · rcases hb b e with e | e
      · exact (h18 b hbR).1 (hwL b e)
      · have := (h18 b hbR).2.2; omega
  · rcases mem5' (y := (Value.slice WA s.wr.length wc).ownBlock) hbL with e | e
    · have := h19 b (by rw [h1]; exact e)
      exact ⟨this.1, Nat.lt_of_lt_of_le this.2 g2.size⟩
    · have := ho.lt b e
      exact ⟨this.1, by simpa using this.2⟩
  · rcases mem5' (y := (Value.slice WA s.wr.length wc).ownBlock) hbL with e | e
    · exact .inl (by rw [h1]; exact e)
    · exact (hb b e).imp (hwL b) id
theorem frz_ext2 {w w' : World} {p : Addr} {v : Value} (x : Ext w w') (h : w.cell? p = some v) (hf : w.frozen? p = false) : w'.frozen? p = false := (x.frozen (World.block_lt_of_cell? w p h)).trans hf
theorem frz_grown {w w' : World} {gc i : Nat} {v : Value} {row : Option Nat} (g : w.grownBy w' row) (h : w.cell? ⟨gc, i, none⟩ = some v) (hf : w.frozen? ⟨gc, i, none⟩ = false) (hn : row ≠ some gc) : w'.frozen? ⟨gc, i, none⟩ = false := by
  have hb := g.block gc (World.block_lt_of_cell? w _ h) (fun e => hn e.symm)
  unfold World.frozen? at hf ⊢
  simp only [hb]
  exact hf
def wrote (s : CSt) (q : Int) (B : List Nat) : CSt := if q = 0 ∧ s.hung = false then { s with wr := s.wr ++ (len4 B.length ++ B) } else s
/-- a reply is laid behind what is to be written -/
def PutR (w : World) (base : Nat) (L : List (Option Nat)) (RO : Nat → Prop) (gc r : Nat) (s : CSt) (e : Int) (g : Bool) (N : List Int) (x : Ending) (w' : World) : Prop :=
  ∃ q B, RepIs e g N q B ∧ x = .returned (.int .i64 q) ∧ ConnGo w base L RO gc r (wrote s q B) w'
theorem ConnGo.refl {w w' : World} {base gc r : Nat} {L : List (Option Nat)} {RO : Nat → Prop} {s : CSt} (h : ConnAt w base L RO gc r s) (x : Ext w w') : ConnGo w base L RO gc r s w' := ⟨L, RO, h.ext x, GB.of_ext _ x, fun _ e => .inl e, fun _ e => .inl e⟩
theorem ConnGo.back {w0 w w' : World} {base gc r : Nat} {L : List (Option Nat)} {RO : Nat → Prop} {s : CSt} (x : Ext w0 w) (h : ConnGo w base L RO gc r s w') : ConnGo w0 base L RO gc r s w' := by
  obtain ⟨L', RO', h1, h2, h3, h4⟩ := h
  exact ⟨L', RO', h1, GB.back x h2, fun b e => (h3 b e).imp id (Nat.le_trans x.size), fun b e => (h4 b e).imp id (fun e => e.imp id (Nat.le_trans x.size))⟩
set_option maxHeartbeats 4000000 in
set_option maxRecDepth 100000 in
theorem cput_any (w : World) (base gc r : Nat) (L : List (Option Nat)) (RO : Nat → Prop) (s : CSt) (h : ConnAt w base L RO gc r s) (hwr : s.wr.length ≤ 1000000) (e : Nat) (he : e ≤ 16) (g : Bool) (l t sn nw : Int) :
    Calls Tryz.prog 151 #[.pointer (some ⟨gc, 0, none⟩), .agg #[.int .i64 (e : Int), .bool g, .int .i64 l, .int .i64 t, .int .i64 sn, .int .i64 nw]] w (PutR w base L RO gc r s (e : Int) g [l, t, sn, nw]) := by
  have RP := Lib.hid (fun u => show Calls Tryz.prog 152 #[.agg #[.int .i64 (e : Int), .bool g, .int .i64 l, .int .i64 t, .int .i64 sn, .int .i64 nw]] u (RetRep (e : Int) g [l, t, sn, nw] u) from by
    cases g
    · exact reply_false u e l t sn nw he
    · exact reply_true u e l t sn nw he)
  obtain ⟨W, hW⟩ : ∃ W, w.alloc (.cells #[.int .i64 (e : Int), .bool g, .int .i64 l, .int .i64 t, .int .i64 sn, .int .i64 nw] 39) = W := ⟨_, rfl⟩
  have xW : Ext w W := by rw [← hW]; exact (Ext.refl w).alloc _
  have KP := Lib.hid (show W.heap[w.heap.size]? = some (.cells #[.int .i64 (e : Int), .bool g, .int .i64 l, .int .i64 t, .int .i64 sn, .int .i64 nw] 39 (0, 0)) by rw [← hW]; exact blk_new w _)
  have H := Lib.hid h; have XW := Lib.hid xW
  clear h xW
  go_enter Tryz.func151, Tryz.ntmps151
  go_upto_region 1 with fail
  (try rw [hW])
  clear hW
  have p0 : W.cell? ⟨w.heap.size, 0, none⟩ = some (.int .i64 (e : Int)) := blk_cell KP.out 0
  have p1 : W.cell? ⟨w.heap.size, 1, none⟩ = some (.bool g) := blk_cell KP.out 1
  have p2 : W.cell? ⟨w.heap.size, 2, none⟩ = some (.int .i64 l) := blk_cell KP.out 2
  have p3 : W.cell? ⟨w.heap.size, 3, none⟩ = some (.int .i64 t) := blk_cell KP.out 3
  have p4 : W.cell? ⟨w.heap.size, 4, none⟩ = some (.int .i64 sn) := blk_cell KP.out 4
  have p5 : W.cell? ⟨w.heap.size, 5, none⟩ = some (.int .i64 nw) := blk_cell KP.out 5
  go_wp2_with fail
  refine (RP.out W).mono ?_
  rintro x w1 ⟨q, B, hri, A1, c1, rfl, o1, x1⟩
  clear p0 p1 p2 p3 p4 p5
  have X1 := Lib.hid (XW.out.trans x1)
  have HRI := Lib.hid hri
  rcases hri with ⟨rfl, rfl, -⟩ | ⟨rfl, -, -, ns, ⟨hns, -⟩, hB⟩
  · clear x1 o1
    go_wp2_with fail
    go_ret
    exact ⟨1, [], HRI.out, rfl, by unfold wrote; rw [if_neg (by omega)]; exact ConnGo.refl H.out X1.out⟩
  · obtain ⟨m, Hm⟩ : ∃ m, Hid (B.length = m) := ⟨_, rfl⟩
    have hm34 : 1 ≤ m ∧ m ≤ 60 := by rw [← Hm.out, hB, repB_len, hns]; omega
    have O1 := Lib.hid o1
    rw [Hm.out] at O1 ⊢
    obtain ⟨WA, wc, c4, c7, f4, hnb, ow, hbw, step⟩ := (H.out.ext X1.out).write
    have STEP := Lib.hid step
    obtain ⟨wn, Hwn⟩ : ∃ wn, Hid (s.wr.length = wn) := ⟨_, rfl⟩
    rw [Hwn.out] at c4 hnb ow STEP hwr
    have OW := Lib.hid ow
    obtain ⟨hg, Hhg⟩ : ∃ b, Hid (s.hung = b) := ⟨_, rfl⟩
    rw [Hhg.out] at c7
    clear x1 o1 ow step hB hns
    cases hg with
    | true =>
      go_wp2_with fail
      go_ret
      exact ⟨0, B, HRI.out, rfl, by unfold wrote; rw [if_neg (by rw [Hhg.out]; simp)]; exact ConnGo.refl H.out X1.out⟩
    | false =>
      have EN := Lib.hid (frEncode_ok w1 A1 m c1 B (by omega) (by omega) Hm.out (Rd.of_own O1.out))
      unfold RetBE at EN
      obtain ⟨fr, Hfr⟩ : ∃ fr, Hid (len4 m ++ B = fr) := ⟨_, rfl⟩
      rw [Hfr.out] at EN
      obtain ⟨fn, Hfn⟩ : ∃ fn, Hid (fr.length = fn) := ⟨_, rfl⟩
      have hfn : fn ≤ 100 := by rw [← Hfn.out, ← Hfr.out, List.length_append, Hm.out]; simp [len4]; omega
      rw [Hfn.out] at EN
      go_wp2_with fail
      refine EN.out.mono ?_
      rintro x w2 ⟨A2, c2, rfl, o2, x2⟩
      have O2 := Lib.hid o2; have X2 := Lib.hid x2
      have d4 := ext_cell x2 c4
      have g4 := frz_ext2 x2 c4 f4
      have hb2 : base ≤ w2.heap.size := Nat.le_trans hbw x2.size
      clear o2 x2 c4 f4 c7
      go_wp2_with (at_builtin; refine app_u8 w2 rfl (.tmp 31) (.tmp 32) rfl base rfl (own_ext OW.out X2.out) rfl Hfn.out (Rd.of_own O2.out) (by omega) hb2 ?_; intro B3 cb3 w3 o3 g3 b3; have e4 : w3.cell? ⟨gc, 4, none⟩ = some (.slice WA wn wc) := g3.cell d4 hnb.symm; have h4 : w3.frozen? ⟨gc, 4, none⟩ = false := frz_grown g3 d4 g4 hnb; have O3 := Lib.hid o3; have G3 := Lib.hid g3; have B3h := Lib.hid b3; clear o3 g3 b3)
      go_ret
      refine ⟨0, B, HRI.out, rfl, ?_⟩
      unfold wrote
      rw [if_pos ⟨rfl, Hhg.out⟩, Hm.out, Hfr.out]
      exact ConnGo.back X1.out (STEP.out B3 (wn + fn) cb3 w3 fr (by rw [List.length_append, Hwn.out, Hfn.out]) O3.out (((GB.refl w1 _).ext X2.out).grown G3.out (fun q e => .inl e)) (fun b e => by
        rcases B3h.out with h9 | h9
        · exact .inl (h9 ▸ e)
        · rw [h9] at e
          injection e with e
          exact .inr (by rw [← e]; exact X2.out.size)))

theorem mem5x {b gc r : Nat} {x y z : Option Nat} (h : some b ∈ [some gc, some r, none, y, z]) : some b ∈ [some gc, some r, x, y, z] := by
  rcases List.mem_cons.1 h with h | h
  · rw [h]; exact List.mem_cons_self
  · refine List.mem_cons_of_mem _ ?_
    rcases List.mem_cons.1 h with h | h
    · rw [h]; exact List.mem_cons_self
    · refine List.mem_cons_of_mem _ (List.mem_cons_of_mem _ ?_)
      rcases List.mem_cons.1 h with h | h
      · cases h
      · exact h
def hangS (s : CSt) : CSt := { s with closed := true, hung := true, line := [] }
/-- closed, hung, nothing waits -/
theorem ConnAt.hang {w : World} {base gc r : Nat} {L : List (Option Nat)} {RO : Nat → Prop} {s : CSt} (h : ConnAt w base L RO gc r s) :
    (∃ v, w.cell? ⟨gc, 6, none⟩ = some v) ∧ (∃ v, w.cell? ⟨gc, 7, none⟩ = some v) ∧ (∃ v, w.cell? ⟨gc, 1, none⟩ = some v) ∧ (∀ i, w.frozen? ⟨gc, i, none⟩ = false) ∧
      ∃ L', ConnAt (((w.setCell ⟨gc, 6, none⟩ (.bool true)).setCell ⟨gc, 7, none⟩ (.bool true)).setCell ⟨gc, 1, none⟩ (.slice none 0 0)) base L' RO gc r (hangS s) ∧ ∀ b, some b ∈ L' → some b ∈ L := by
  obtain ⟨S, lv, ov, lob, lk, tk, WA, TA, wn, wc, tn, tc, h1, h2, h3, h4, h5, h6, h7, h8, h9, h10, h11, h12, h13, h14, h15, h16, h17, h18, h19⟩ := h
  rw [h1] at h2
  obtain ⟨a1, a2, a3, a4⟩ := apart5 h2
  have g : GB w (((w.setCell ⟨gc, 6, none⟩ (.bool true)).setCell ⟨gc, 7, none⟩ (.bool true)).setCell ⟨gc, 1, none⟩ (.slice none 0 0)) (· = gc) := (((GB.refl w (· = gc)).set gc 6 _ (.inl rfl)).set gc 7 _ (.inl rfl)).set gc 1 _ (.inl rfl)
  have hR : ∀ b, RO b → ¬ b = gc := fun b hb e => (h18 b hb).1 (by rw [h1, e]; simp)
  refine ⟨⟨_, blk_cell h3 6⟩, ⟨_, blk_cell h3 7⟩, ⟨_, blk_cell h3 1⟩, fun i => blk_frozen h3 i, [some gc, some r, none, (Value.slice WA wn wc).ownBlock, (Value.slice TA tn tc).ownBlock], ⟨S, .slice none 0 0, ov, none, [], tk, WA, TA, wn, wc, tn, tc, rfl, apart5_mk a1 (fun q e => by cases e) (fun q e => ⟨(a3 q e).1, (a3 q e).2.1, fun e => by cases e⟩) (fun q e => ⟨(a4 q e).1, (a4 q e).2.1, (fun e => by cases e), (a4 q e).2.2.2⟩), blk_set (blk_set (blk_set h3 6 _) 7 _) 1 _, IsRdr.gb h4 g (fun e => a1 e.symm) (fun b hb => hR b (h5 b hb)), h5, rfl, offS_nil _ _, (fun p hp => by simp at hp), (fun k hk => by simp at hk), h10.gbk g hR, h11, g.own h12 (fun b e => (a3 b e).1), h13, h14, g.own h15 (fun b e => (a4 b e).1), h16.gbk h17 g hR, h17, fun b hb => ⟨fun e => (h18 b hb).1 (by rw [h1]; exact mem5x e), (h18 b hb).2.1, by simpa using (h18 b hb).2.2⟩, fun b hb => ⟨(h19 b (by rw [h1]; exact mem5x hb)).1, by simpa using (h19 b (by rw [h1]; exact mem5x hb)).2⟩⟩, fun b hb => by rw [h1]; exact mem5x hb⟩
set_option maxHeartbeats 1000000 in
set_option maxRecDepth 100000 in
theorem changup_any (w : World) (base gc r : Nat) (L : List (Option Nat)) (RO : Nat → Prop) (s : CSt) (h : ConnAt w base L RO gc r s) (hn : s.led.length ≤ 100000) (hkl : ∀ t ∈ s.led, t.key.length ≤ 5000) :
    Calls Tryz.prog 107 #[.pointer (some ⟨gc, 0, none⟩)] w fun e w' => ∃ A c ks L', e = .returned (.slice A s.led.length c) ∧ ConnAt w' base L' RO gc r (hangS s) ∧ TokNew w' w.heap.size A s.led.length c s.led ks ∧ GB w w' (· = gc) ∧ ∀ b, some b ∈ L' → some b ∈ L := by
  obtain ⟨⟨v6, c6⟩, ⟨v7, c7⟩, ⟨v1, c1⟩, fz, L', hh, hL⟩ := h.hang
  have f6 := fz 6; have f7 := fz 7; have f1 := fz 1
  have LD := Lib.hid (cledger_any _ base gc r L' RO (hangS s) hh hn hkl)
  have g : GB w (((w.setCell ⟨gc, 6, none⟩ (.bool true)).setCell ⟨gc, 7, none⟩ (.bool true)).setCell ⟨gc, 1, none⟩ (.slice none 0 0)) (· = gc) := (((GB.refl w (· = gc)).set gc 6 _ (.inl rfl)).set gc 7 _ (.inl rfl)).set gc 1 _ (.inl rfl)
  have hsz : (((w.setCell ⟨gc, 6, none⟩ (.bool true)).setCell ⟨gc, 7, none⟩ (.bool true)).setCell ⟨gc, 1, none⟩ (.slice none 0 0)).heap.size = w.heap.size := by simp
  obtain ⟨X, hX⟩ : ∃ X, (((w.setCell ⟨gc, 6, none⟩ (.bool true)).setCell ⟨gc, 7, none⟩ (.bool true)).setCell ⟨gc, 1, none⟩ (.slice none 0 0)) = X := ⟨_, rfl⟩
  rw [hX] at LD g hsz hh
  have HH := Lib.hid hh; have HL := Lib.hid hL; have HX := Lib.hid hX; have HSZ := Lib.hid hsz; have HG := Lib.hid g
  clear h hh hL hX fz hsz g
  go_enter Tryz.func107, Tryz.ntmps107
  go_upto_region 4 with fail
  first | rw [HX.out] | rw [show ((((w.setCell ⟨gc, 6, none⟩ (.bool true)).setCell ⟨gc, 7, none⟩ (.bool true)).setCell ⟨gc, 1, none⟩ (.slice none 0 0))).drew = X.drew by rw [HX.out]]
  go_wp2_with fail
  refine LD.out.mono ?_
  rintro e w2 ⟨A, c, ks, rfl, hN, x2⟩
  go_wp2_with fail
  go_ret
  exact ⟨A, c, ks, L', rfl, HH.out.ext x2, by rw [← HSZ.out]; exact hN, HG.out.ext x2, HL.out⟩

def natI (xs : List Nat) : List Int := xs.map fun (x : Nat) => (x : Int)
theorem conv_any (w : World) (A : Option Addr) (n c : Nat) (xs : List Nat) (hl : xs.length = n) (hr : Rd w A (vals .u8 xs)) : (convert 32 9 (.slice A n c)).run Tryz.prog w = .ok (.string (strOfNums (natI xs))) w := by
  rcases Nat.eq_zero_or_pos n with hn | hn
  · subst hn
    obtain rfl : xs = [] := List.eq_nil_of_length_eq_zero hl
    exact run_convert_bytes_zero w _ _ Tryz.underlying32 Tryz.underlying5 A c _ Tryz.underlying9
  · obtain ⟨b, off, rfl, hc⟩ := hr (fun e => by have := congrArg List.length e; rw [vals_len, List.length_nil] at this; omega)
    exact run_convert_bytes_arg (P := Tryz.prog) w _ _ Tryz.underlying32 Tryz.underlying5 b off n c (natI xs) (by unfold natI; rw [List.length_map, hl]) (fun i hi => by
      obtain ⟨x, hx⟩ : ∃ x, xs[i]? = some x := ⟨_, List.getElem?_eq_getElem (by omega)⟩
      rw [hc i _ (vals_get hx)]
      unfold natI
      rw [List.getD_eq_getElem?_getD, List.getElem?_map, hx]
      rfl) _ Tryz.underlying9
theorem str_eq {xs ys : List Nat} (h : ∀ x ∈ xs, x < 256) (h' : ∀ x ∈ ys, x < 256) : strOfNums (natI xs) = strOfNums (natI ys) ↔ xs = ys := by
  constructor
  · intro e
    have e2 := congrArg (fun s : ByteArray => s.data.toList.map UInt8.toNat) e
    have hm : ∀ (l : List Nat), (∀ x ∈ l, x < 256) → (strOfNums (natI l)).data.toList.map UInt8.toNat = l := fun l hl => by
      rw [strOfNums_data]
      unfold natI
      rw [List.map_map, List.map_map]
      conv => rhs; rw [← List.map_id l]
      refine List.map_congr_left fun x hx => ?_
      have := hl x hx
      simp [UInt8.toNat_ofNat']
      omega
    rw [hm xs h, hm ys h'] at e2
    exact e2
  · intro e; rw [e]
set_option maxHeartbeats 400000 in
theorem bequal_any (w : World) (A B : Option Addr) (n c m d : Nat) (xs ys : List Nat) (hl : xs.length = n) (hl' : ys.length = m) (hb : ∀ x ∈ xs, x < 256) (hb' : ∀ x ∈ ys, x < 256) (hr : Rd w A (vals .u8 xs)) (hr' : Rd w B (vals .u8 ys)) :
    Calls Tryz.prog 155 #[.slice A n c, .slice B m d] w fun e w' => e = .returned (.bool (decide (xs = ys))) ∧ w = w' := by
  have h1 := conv_any w A n c xs hl hr
  have h2 := conv_any w B m d ys hl' hr'
  obtain ⟨s1, hs1⟩ : ∃ s, strOfNums (natI xs) = s := ⟨_, rfl⟩
  obtain ⟨s2, hs2⟩ : ∃ s, strOfNums (natI ys) = s := ⟨_, rfl⟩
  have hq := str_eq hb hb'
  rw [hs1] at h1
  rw [hs2] at h2
  rw [hs1, hs2] at hq
  by_cases hxy : xs = ys
  · have h3 : s1 = s2 := hq.2 hxy
    subst h3
    rw [decide_eq_true hxy]
    clear hq hs1 hs2 hl hl' hb hb' hr hr' hxy
    go_enter Tryz.func155, Tryz.ntmps155
    go_wp2_with fail
    go_ret
    exact ⟨rfl, rfl⟩
  · have h3 : (s1.toList == s2.toList) = false := by
      rw [ByteArray.toList_eq, ByteArray.toList_eq]
      exact beq_eq_false_iff_ne.2 (fun e => hxy (hq.1 (ByteArray.ext (Array.toList_inj.1 e))))
    rw [decide_eq_false hxy]
    clear hq hs1 hs2 hl hl' hb hb' hr hr' hxy
    go_enter Tryz.func155, Tryz.ntmps155
    go_wp2_with fail
    go_ret
    exact ⟨rfl, rfl⟩

def isTok (c : CCall) (t : CTok) : Bool := decide (t.pol = (c.pol : Int) ∧ t.key = c.key ∧ t.ser = (c.num : Int))
set_option maxHeartbeats 1000000 in
theorem crep1_any (w : World) (o K1c K2c n m p N : Nat) (K1 K2 : Option Addr) (op : Nat) (key ck : List Nat) (pt ser : Int) (hblk : w.heap[o]? = some (.cells #[.int .u8 (op : Int), .int .i64 (p : Int), .slice K1 n K1c, .int .i64 (N : Int)] 34 (0, 0)))
    (h1 : ck.length = n) (h2 : key.length = m) (hb1 : ∀ x ∈ ck, x < 256) (hb2 : ∀ x ∈ key, x < 256) (hr1 : Rd w K1 (vals .u8 ck)) (hr2 : Rd w K2 (vals .u8 key)) :
    Calls Tryz.prog 154 #[.agg #[.int .i64 pt, .slice K2 m K2c, .int .i64 ser], .pointer (some ⟨o, 0, none⟩)] w (RetE (.bool (isTok ⟨op, p, ck, N⟩ ⟨pt, key, ser⟩)) w) := by
  have xW : Ext w (w.alloc (.cells #[.int .i64 pt, .slice K2 m K2c, .int .i64 ser] 120)) := (Ext.refl w).alloc _
  have EQ := Lib.hid (bequal_any (w.alloc (.cells #[.int .i64 pt, .slice K2 m K2c, .int .i64 ser] 120)) K2 K1 m K2c n K1c key ck h2 h1 hb2 hb1 (hr2.ext xW) (hr1.ext xW))
  have kb := blk_ext hblk xW
  have c1 : (w.alloc (.cells #[.int .i64 pt, .slice K2 m K2c, .int .i64 ser] 120)).cell? ⟨o, 1, none⟩ = some (.int .i64 (p : Int)) := blk_cell kb 1
  have c2 : (w.alloc (.cells #[.int .i64 pt, .slice K2 m K2c, .int .i64 ser] 120)).cell? ⟨o, 2, none⟩ = some (.slice K1 n K1c) := blk_cell kb 2
  have c3 : (w.alloc (.cells #[.int .i64 pt, .slice K2 m K2c, .int .i64 ser] 120)).cell? ⟨o, 3, none⟩ = some (.int .i64 (N : Int)) := blk_cell kb 3
  have hol := blk_lt hblk
  unfold isTok
  dsimp only
  clear hblk kb h1 h2 hb1 hb2 hr1 hr2
  by_cases e1 : pt = (p : Int)
  · subst e1
    by_cases e2 : key = ck
    · rw [decide_eq_true e2] at EQ
      by_cases e3 : ser = (N : Int)
      · subst e3
        rw [decide_eq_true ⟨rfl, e2, rfl⟩]
        clear e2
        go_enter Tryz.func154, Tryz.ntmps154
        go_wp2_with fail
        refine EQ.out.mono ?_
        rintro e w1 ⟨rfl, rfl⟩
        go_wp2_with fail
        go_ret
        exact ⟨rfl, xW⟩
      · rw [decide_eq_false (fun h => e3 h.2.2)]
        have e3' : (ser == (N : Int)) = false := by simpa using e3
        clear e2 e3
        go_enter Tryz.func154, Tryz.ntmps154
        go_wp2_with fail
        refine EQ.out.mono ?_
        rintro e w1 ⟨rfl, rfl⟩
        go_wp2_with fail
        go_ret
        exact ⟨rfl, xW⟩
    · rw [decide_eq_false e2] at EQ
      rw [decide_eq_false (fun h => e2 h.2.1)]
      clear e2
      go_enter Tryz.func154, Tryz.ntmps154
      go_wp2_with fail
      refine EQ.out.mono ?_
      rintro e w1 ⟨rfl, rfl⟩
      go_wp2_with fail
      go_ret
      exact ⟨rfl, xW⟩
  · rw [decide_eq_false (fun h => e1 h.1)]
    have e1' : (pt == (p : Int)) = false := by simpa using e1
    clear e1
    go_enter Tryz.func154, Tryz.ntmps154
    go_wp2_with fail
    go_ret
    exact ⟨rfl, xW⟩
def idxT (c : CCall) : List CTok → Option Nat
  | [] => none
  | t :: l => if isTok c t = true then some 0 else (idxT c l).map (· + 1)
theorem idx_at {c : CCall} : ∀ {l : List CTok} {j : Nat} {t : CTok}, (∀ (q : Nat) (x : CTok), q < j → l[q]? = some x → isTok c x = false) → l[j]? = some t → isTok c t = true → idxT c l = some j
  | [], _, _, _, h, _ => by simp at h
  | y :: l, 0, t, _, h, ht => by
    simp at h
    subst h
    exact if_pos ht
  | y :: l, j + 1, t, hn, h, ht => by
    have hy := hn 0 y (by omega) rfl
    unfold idxT
    rw [if_neg (by rw [hy]; exact Bool.false_ne_true), idx_at (j := j) (fun q x hq hx => hn (q + 1) x (by omega) (by simpa using hx)) (by simpa using h) ht]
    rfl
theorem idx_none {c : CCall} : ∀ {l : List CTok}, (∀ (q : Nat) (x : CTok), l[q]? = some x → isTok c x = false) → idxT c l = none
  | [], _ => rfl
  | y :: l, hn => by
    have hy := hn 0 y rfl
    unfold idxT
    rw [if_neg (by rw [hy]; exact Bool.false_ne_true), idx_none (fun q x hx => hn (q + 1) x (by simpa using hx))]
    rfl
def idxV (o : Option Nat) : Int := match o with
  | some i => (i : Int)
  | none => -1
set_option maxHeartbeats 1000000 in
set_option maxRecDepth 100000 in
theorem cindex_any (w : World) (A : Option Addr) (nl cl : Nat) (l : List CTok) (ks : List KRef) (o K1c n p N op : Nat) (K1 : Option Addr) (ck : List Nat) (hl : l.length = nl) (hnl : nl ≤ 100000) (hE : TokRd w A l ks) (hkb : ∀ t ∈ l, ∀ x ∈ t.key, x < 256)
    (hblk : w.heap[o]? = some (.cells #[.int .u8 (op : Int), .int .i64 (p : Int), .slice K1 n K1c, .int .i64 (N : Int)] 34 (0, 0))) (h1 : ck.length = n) (hb1 : ∀ x ∈ ck, x < 256) (hr1 : Rd w K1 (vals .u8 ck)) :
    Calls Tryz.prog 153 #[.slice A nl cl, .func (.func 154) #[] #[.pointer (some ⟨o, 0, none⟩)]] w (RetE (.int .i64 (idxV (idxT ⟨op, p, ck, N⟩ l))) w) := by
  have Hl := Lib.hid hl; have HE := Lib.hid hE; have HB := Lib.hid hkb; have HBL := Lib.hid hblk; have H1 := Lib.hid h1; have HB1 := Lib.hid hb1; have HR1 := Lib.hid hr1
  clear hl hE hkb hblk h1 hb1 hr1
  go_enter Tryz.func153, Tryz.ntmps153
  go_wp2_with fail
  go_loopw [8] (fun i wr => ∃ j : Nat, j ≤ nl ∧ i = .int .i64 (j : Int) ∧ Ext w wr ∧ ∀ q x, q < j → l[q]? = some x → isTok ⟨op, p, ck, N⟩ x = false) (fun i _ => nl - (intOf i).toNat)
  case atStart => exact ⟨0, Nat.zero_le _, rfl, Ext.refl w, fun q e h => absurd h (Nat.not_lt_zero q)⟩
  case round =>
    obtain ⟨j, hj, rfl, hx, hne⟩ := hrel
    have HX := Lib.hid hx; have HNE := Lib.hid hne
    clear hne
    by_cases hlt : j < nl
    · obtain ⟨e, he⟩ : ∃ e, l[j]? = some e := ⟨_, List.getElem?_eq_getElem (by rw [Hl.out]; exact hlt)⟩
      obtain ⟨b, off, K2, kc, hA, hks, d0, d1, d2, hkc, hkr⟩ := (HE.out.ext hx).at_ he
      have hkb9 := HB.out e (List.mem_of_getElem? he)
      have He := Lib.hid he
      obtain ⟨pt, x, ser⟩ := e
      dsimp only at d0 d1 d2 hkc hkr hkb9
      subst hA
      obtain ⟨m, Hm⟩ : ∃ m, Hid (x.length = m) := ⟨_, rfl⟩
      rw [Hm.out] at d1 hkc
      have CR := Lib.hid (crep1_any wr o K1c kc n m p N K1 K2 op x ck pt ser (blk_ext HBL.out hx) H1.out Hm.out HB1.out hkb9 (HR1.out.ext hx) hkr)
      clear he hkr hkb9 hx hks
      cases ht : isTok ⟨op, p, ck, N⟩ ⟨pt, x, ser⟩ with
      | true =>
        rw [ht] at CR
        have HT := Lib.hid ht
        clear ht
        go_wp2_with fail
        refine CR.out.mono ?_
        rintro e w3 ⟨rfl, x3⟩
        go_wp2_with fail
        go_ret
        refine ⟨?_, HX.out.trans x3⟩
        rw [idx_at HNE.out He.out HT.out]
        rfl
      | false =>
        rw [ht] at CR
        have HT := Lib.hid ht
        clear ht
        go_wp2_with fail
        refine CR.out.mono ?_
        rintro e w3 ⟨rfl, x3⟩
        have X3 := Lib.hid (HX.out.trans x3)
        clear x3
        go_wp2_with fail
        go_roundw
        case rel => exact ⟨j + 1, hlt, by go_num, X3.out, fun q y hq hy => by
          rcases Nat.lt_or_ge q j with h | h
          · exact HNE.out q y h hy
          · obtain rfl : q = j := by omega
            rw [He.out] at hy
            injection hy with hy
            subst hy
            exact HT.out⟩
        case measure => simp [intOf]; omega
    · obtain rfl : j = nl := by omega
      go_wp2_with fail
      go_ret
      refine ⟨?_, HX.out⟩
      rw [idx_none (fun q y hy => HNE.out q y (by rw [← Hl.out]; exact (List.getElem?_eq_some_iff.1 hy).1) hy)]
      rfl

/-- no call is out any more -/
theorem ConnAt.outNone {w : World} {base gc r : Nat} {L : List (Option Nat)} {RO : Nat → Prop} {s : CSt} (h : ConnAt w base L RO gc r s) :
    ConnAt (w.setCell ⟨gc, 3, none⟩ (.pointer none)) base L RO gc r { s with out := none } ∧ GB w (w.setCell ⟨gc, 3, none⟩ (.pointer none)) (· = gc) := by
  obtain ⟨S, lv, ov, lob, lk, tk, WA, TA, wn, wc, tn, tc, h1, h2, h3, h4, h5, h6, h7, h8, h9, h10, h11, h12, h13, h14, h15, h16, h17, h18, h19⟩ := h
  have h2' := h2
  rw [h1] at h2'
  obtain ⟨a1, a2, a3, a4⟩ := apart5 h2'
  have g : GB w (w.setCell ⟨gc, 3, none⟩ (.pointer none)) (· = gc) := (GB.refl w (· = gc)).set gc 3 _ (.inl rfl)
  have hR : ∀ b, RO b → ¬ b = gc := fun b hb e => (h18 b hb).1 (by rw [h1, e]; simp)
  exact ⟨⟨S, lv, .pointer none, lob, lk, tk, WA, TA, wn, wc, tn, tc, h1, h2, blk_set h3 3 _, IsRdr.gb h4 g (fun e => a1 e.symm) (fun b hb => hR b (h5 b hb)), h5, h6, h7.gb g (fun b e => (a2 b e).1), h8.gbk h9 g hR, h9, rfl, h11, g.own h12 (fun b e => (a3 b e).1), h13, h14, g.own h15 (fun b e => (a4 b e).1), h16.gbk h17 g hR, h17, fun b hb => ⟨(h18 b hb).1, (h18 b hb).2.1, by simpa using (h18 b hb).2.2⟩, fun b hb => ⟨(h19 b hb).1, by simpa using (h19 b hb).2⟩⟩, g⟩
theorem mem5'' {b gc r : Nat} {x y z z' : Option Nat} (h : some b ∈ [some gc, some r, x, y, z']) : some b ∈ [some gc, some r, x, y, z] ∨ z' = some b := by
  rcases List.mem_cons.1 h with h | h
  · rw [h]; exact .inl List.mem_cons_self
  · rcases List.mem_cons.1 h with h | h
    · rw [h]; exact .inl (List.mem_cons_of_mem _ List.mem_cons_self)
    · rcases List.mem_cons.1 h with h | h
      · rw [h]; exact .inl (List.mem_cons_of_mem _ (List.mem_cons_of_mem _ List.mem_cons_self))
      · rcases List.mem_cons.1 h with h | h
        · rw [h]; exact .inl (List.mem_cons_of_mem _ (List.mem_cons_of_mem _ (List.mem_cons_of_mem _ List.mem_cons_self)))
        · exact .inr (List.mem_singleton.1 h).symm
/-- the ledger, and what it may become -/
theorem ConnAt.ledger {w : World} {base gc r : Nat} {L : List (Option Nat)} {RO : Nat → Prop} {s : CSt} (h : ConnAt w base L RO gc r s) :
    ∃ (TA : Option Addr) (tc : Nat) (tk : List KRef), w.cell? ⟨gc, 5, none⟩ = some (.slice TA s.led.length tc) ∧ w.frozen? ⟨gc, 5, none⟩ = false ∧ (Value.slice TA s.led.length tc).ownBlock ≠ some gc ∧ w.ownsRow base 120 3 (.slice TA s.led.length tc) s.led.length (toksV tk s.led) ∧ tk.length = s.led.length ∧ KeysRd w (fun t => t.key) tk s.led ∧ (∀ k ∈ tk, KeyIn RO k) ∧ base ≤ w.heap.size ∧ (∀ b, (Value.slice TA s.led.length tc).ownBlock = some b → some b ∈ L) ∧
      ∀ (B : Option Addr) (n' cb : Nat) (w3 : World) (l' : List CTok) (tk' : List KRef), l'.length = n' → tk'.length = l'.length → w3.ownsRow base 120 3 (.slice B n' cb) n' (toksV tk' l') → KeysRd w (fun t => t.key) tk' l' → (∀ k ∈ tk', KeyIn RO k) → GB w w3 (fun b => (Value.slice TA s.led.length tc).ownBlock = some b) → (∀ b, (Value.slice B n' cb).ownBlock = some b → (Value.slice TA s.led.length tc).ownBlock = some b ∨ w.heap.size ≤ b) →
        ConnGo w base L RO gc r { s with led := l' } (w3.setCell ⟨gc, 5, none⟩ (.slice B n' cb)) := by
  obtain ⟨S, lv, ov, lob, lk, tk, WA, TA, wn, wc, tn, tc, h1, h2, h3, h4, h5, h6, h7, h8, h9, h10, h11, h12, h13, h14, h15, h16, h17, h18, h19⟩ := h
  subst h14
  rw [h1] at h2
  obtain ⟨a1, a2, a3, a4⟩ := apart5 h2
  have hgcl := (h19 gc (by rw [h1]; simp))
  have hwL : ∀ b, (Value.slice TA s.led.length tc).ownBlock = some b → some b ∈ L := fun b e => by rw [h1, ← e]; simp
  refine ⟨TA, tc, tk, blk_cell h3 5, blk_frozen h3 5, fun e => (a4 gc e).1 rfl, h15, h13, h16, h17, Nat.le_trans hgcl.1 (Nat.le_of_lt hgcl.2), hwL, fun B n' cb w3 l' tk' hl hkl ho hkr hki g hb => ?_⟩
  have g2 : GB w (w3.setCell ⟨gc, 5, none⟩ (.slice B n' cb)) (fun b => b = gc ∨ (Value.slice TA s.led.length tc).ownBlock = some b) := (g.more (fun b _ e => .inr e)).trans ((GB.refl w3 (· = gc)).set gc 5 _ (.inl rfl)) (fun b e => .inl (.inl e))
  have hR : ∀ b, RO b → ¬ (b = gc ∨ (Value.slice TA s.led.length tc).ownBlock = some b) := fun b hb e => (h18 b hb).1 (e.elim (fun e => by rw [h1, e]; simp) (hwL b))
  have hsz := g.size
  have hnew : ∀ q, (Value.slice B n' cb).ownBlock = some q → q ≠ gc ∧ q ≠ r ∧ lob ≠ some q ∧ (Value.slice WA wn wc).ownBlock ≠ some q := fun q e => (hb q e).elim (fun e => a4 q e) (fun e => ⟨fun e2 => by omega, fun e2 => by have := (h19 r (by rw [h1]; simp)).2; omega, fun e2 => by have := (h19 q (by rw [h1, ← e2]; simp)).2; omega, fun e2 => by have := (h19 q (by rw [h1, ← e2]; simp)).2; omega⟩)
  refine ⟨[some gc, some r, lob, (Value.slice WA wn wc).ownBlock, (Value.slice B n' cb).ownBlock], RO, ⟨S, lv, ov, lob, lk, tk', WA, B, wn, wc, n', cb, rfl, apart5_mk a1 a2 a3 hnew, blk_set (g.blk h3 (fun e => (a4 gc e).1 rfl)) 5 _, IsRdr.gb h4 g2 (fun e => e.elim (fun e => a1 e.symm) (fun e => (a4 r e).2.1 rfl)) (fun b hb => hR b (h5 b hb)), h5, h6, h7.gb g2 (fun b e e2 => e2.elim (fun e2 => (a2 b e).1 e2) (fun e2 => (a4 b e2).2.2.1 e)), h8.gbk h9 g2 hR, h9, h10.gbk g2 hR, h11, g2.own h12 (fun b e e2 => e2.elim (fun e2 => (a3 b e).1 e2) (fun e2 => (a4 b e2).2.2.2 e)), hkl, hl, (((GB.refl w3 (· = gc)).set gc 5 _ (.inl rfl)).own ho (fun b e e2 => (hnew b e).1 e2)), hkr.gbk hki g2 hR, hki, fun b hbR => ⟨fun e => ?_, (h18 b hbR).2.1, Nat.lt_of_lt_of_le (h18 b hbR).2.2 g2.size⟩, fun b hbL => ?_⟩, g2.more (fun b _ e => e.elim (fun e => by rw [h1, e]; simp) (hwL b)), fun b hbL => ?_, fun b e => .inl e⟩
  · rcases mem5'' (z := (Value.slice TA s.led.length tc).ownBlock) e with e | e
    · exact (h18 b hbR).1 (by rw [h1]; exact e)
    · rcases hb b e with e | e
      · exact (h18 b hbR).1 (hwL b e)
      · have := (h18 b hbR).2.2; omega
  · rcases mem5'' (z := (Value.slice TA s.led.length tc).ownBlock) hbL with e | e
    · have := h19 b (by rw [h1]; exact e)
      exact ⟨this.1, Nat.lt_of_lt_of_le this.2 g2.size⟩
    · have := ho.lt b e
      exact ⟨this.1, by simpa using this.2⟩
  · rcases mem5'' (z := (Value.slice TA s.led.length tc).ownBlock) hbL with e | e
    · exact .inl (by rw [h1]; exact e)
    · exact (hb b e).imp (hwL b) id
end

section

section
variable {P : Program} {ops : Array Oper} {Q : Exit → Act → World → Prop} {md : Region.Mode} {S : World → Prop} {K : List Nat}

/-- S holds, as long as none of K has come up -/
def HeldT (S : World → Prop) (K : List Nat) (listed : Array Bool) (w : World) : Prop := (∀ k ∈ K, listed.getD k true = false) → S w
/-- whatever order is picked; S holds behind each operation, as long as none of K has come up -/
def wpAnyK (P : Program) (md : Region.Mode) (ops : Array Oper) (Q : Exit → Act → World → Prop) (S : World → Prop) (K : List Nat) : Nat → Array Bool → Act → World → Prop
  | 0, listed, a, w => Region.ready md ops listed = [] ∧ Q .normal a w
  | fuel + 1, listed, a, w => (Region.ready md ops listed = [] → Q .normal a w) ∧
    ∀ i ∈ Region.ready md ops listed, wpOp P ops Q i (fun a' w' => HeldT S K (listed.setIfInBounds i true) w' ∧ wpAnyK P md ops Q S K fuel (listed.setIfInBounds i true) a' w') a w
theorem wpAny_of_k : ∀ (fuel : Nat) (listed : Array Bool) (a : Act) (w : World), wpAnyK P md ops Q S K fuel listed a w → wpAny P md ops Q fuel listed a w
  | 0, _, _, _, h => h
  | fuel + 1, _, _, _, h => ⟨h.1, fun i hi => wpOp_mono (fun a' w' h' => wpAny_of_k fuel _ a' w' h'.2) (h.2 i hi)⟩
/-- whatever has come up, all that it waits for has come up -/
def closedB (md : Region.Mode) (ops : Array Oper) (listed : Array Bool) : Bool :=
  (List.range ops.size).all fun j => !listed.getD j false || match ops[j]? with
    | some o => o.after.all fun e => !Region.binds md e || listed.getD e.on false
    | none => true
def Closed (md : Region.Mode) (ops : Array Oper) (listed : Array Bool) : Prop :=
  ∀ j o, ops[j]? = some o → listed.getD j false = true → ∀ e ∈ o.after, Region.binds md e = true → listed.getD e.on false = true
theorem closed_of {listed : Array Bool} (h : closedB md ops listed = true) : Closed md ops listed := fun j o ho hl e he hb => by
  unfold closedB at h
  rw [List.all_eq_true] at h
  have h1 := h j (List.mem_range.2 (Array.getElem?_eq_some_iff.1 ho).1)
  simp only [hl, ho, Bool.not_true, Bool.false_or] at h1
  have h2 := Array.all_eq_true_iff_forall_mem.1 h1 e he
  simpa [hb] using h2
theorem Closed.set {listed : Array Bool} {j : Nat} (h : Closed md ops listed) (hj : j ∈ Region.ready md ops listed) : Closed md ops (listed.setIfInBounds j true) := fun i o ho hl e he hb => by
  by_cases hij : i = j
  · subst hij
    obtain ⟨_, o', ho', hall⟩ := mem_ready.1 hj
    rw [ho] at ho'
    injection ho' with ho'
    subst ho'
    exact getD_set_true (hall e he hb)
  · rw [getD_set_ne false (fun e => hij e.symm)] at hl
    exact getD_set_true (h i o ho hl e he hb)
/-- k waits for i, directly or through others -/
def waitsOn (md : Region.Mode) (ops : Array Oper) (i : Nat) : Nat → Nat → Bool
  | 0, _ => false
  | n + 1, k => match ops[k]? with
    | some o => o.after.toList.any fun e => Region.binds md e && (e.on == i || waitsOn md ops i n e.on)
    | none => false
theorem waits_spec {listed : Array Bool} (hc : Closed md ops listed) {i : Nat} : ∀ (n k : Nat), waitsOn md ops i n k = true → (∀ o, ops[k]? = some o → ∀ e ∈ o.after, Region.binds md e = true → listed.getD e.on false = true) → listed.getD i false = true
  | 0, _, h, _ => by cases h
  | n + 1, k, h, hk => by
    unfold waitsOn at h
    cases ho : ops[k]? with
    | none => rw [ho] at h; cases h
    | some o =>
      rw [ho] at h
      obtain ⟨e, he', h1⟩ := List.any_eq_true.1 h
      have he : e ∈ o.after := by simpa using he'
      rw [Bool.and_eq_true, Bool.or_eq_true] at h1
      obtain ⟨hb, h2⟩ := h1
      have hl := hk o ho e he hb
      rcases h2 with h2 | h2
      · rw [← of_decide_eq_true h2]; exact hl
      · exact waits_spec hc n e.on h2 fun o' ho' => hc e.on o' ho' hl
theorem HeldT.set {listed : Array Bool} {w : World} {i : Nat} (h : HeldT S K listed w) (hi : i ∉ K) : HeldT S K (listed.setIfInBounds i true) w := fun hk => h fun k hkk => by
  have := hk k hkk
  rwa [getD_set_ne true (show i ≠ k from fun e => hi (e ▸ hkk))] at this
theorem HeldT.back {listed : Array Bool} {w : World} {i : Nat} (h : HeldT S K (listed.setIfInBounds i true) w) (hi : i ∉ K) : HeldT S K listed w := fun hk => h fun k hkk => by
  rw [getD_set_ne true (show i ≠ k from fun e => hi (e ▸ hkk))]
  exact hk k hkk
theorem not_listed {listed : Array Bool} {i : Nat} (hi0 : listed.getD i true = false) : ¬ listed.getD i false = true := fun e => by
  rcases Nat.lt_or_ge i listed.size with h' | h'
  · simp [h'] at hi0 e; rw [hi0] at e; cases e
  · simp [Array.getElem?_eq_none h'] at e
theorem not_ready {listed : Array Bool} {i : Nat} (h : ¬ listed.getD i true = true) : listed.getD i true = false := by
  cases e : listed.getD i true with
  | false => rfl
  | true => exact absurd e h
/-- while i has not come up, none of K has that waits for i -/
theorem none_listed {listed : Array Bool} {i n : Nat} (hc : Closed md ops listed) (hs : ops.size ≤ listed.size) (hi0 : listed.getD i true = false) (hw : ∀ k ∈ K, waitsOn md ops i n k = true) : ∀ k ∈ K, listed.getD k true = false := fun k hk => not_ready fun e => by
  have hw' := hw k hk
  refine not_listed hi0 (waits_spec hc n k hw' fun o ho => hc k o ho ?_)
  have hlt : k < ops.size := (Array.getElem?_eq_some_iff.1 ho).1
  have : k < listed.size := by omega
  simp [this] at e ⊢
  exact e
theorem wpAnyK_first {i n : Nat} {oi : Oper} {v : Value} (hi : ops[i]? = some oi) (hsel : ∀ (j : Nat) (o : Oper) cs b, ops[j]? = some o → o.op ≠ .select cs b)
    (hQ : ∀ c a w, Q (.panic c) (a.put oi.dst v) w → Q (.panic c) a w) (hw : ∀ k ∈ K, waitsOn md ops i n k = true) (hiK : i ∉ K) :
    ∀ (fuel : Nat) (listed : Array Bool) (a : Act) (w : World),
      (∀ j oj, ops[j]? = some oj → j ≠ i → listed.getD j true = false → (∀ e ∈ oj.after, Region.binds md e = true → e.on ≠ i) → oi.apart ops oj = true) →
      i ∈ Region.ready md ops listed → Closed md ops listed → ops.size ≤ listed.size → YieldsIf P ops S oi v a → S w →
      wpAnyK P md ops Q S K fuel (listed.setIfInBounds i true) (a.put oi.dst v) w → wpAnyK P md ops Q S K (fuel + 1) listed a w := by
  intro fuel
  induction fuel with
  | zero =>
    intro listed a w _ hr _ _ hy hS H
    refine ⟨fun h => (by rw [h] at hr; cases hr), fun j hj => ?_⟩
    by_cases hji : j = i
    · subst hji; exact hy.wpOp hi hS ⟨fun _ => hS, H⟩
    · have := ready_mono hj hji
      rw [H.1] at this
      cases this
  | succ fuel ih =>
    intro listed a w hfree hr hcl hsz hy hS H
    refine ⟨fun h => (by rw [h] at hr; cases hr), fun j hj => ?_⟩
    by_cases hji : j = i
    · subst hji; exact hy.wpOp hi hS ⟨fun _ => hS, H⟩
    · have h1 := H.2 j (ready_mono hj hji)
      obtain ⟨hjun, oj, hoj, hall⟩ := mem_ready.1 hj
      have hi0 := (mem_ready.1 hr).1
      have hnot : ∀ e ∈ oj.after, Region.binds md e = true → e.on ≠ i := fun e he hb heq => not_listed hi0 (heq ▸ hall e he hb)
      have h2 := wpOp_putIf hoj (hfree j oj hoj hji hjun hnot) (fun cs b => hsel i oi cs b hi) (fun cs b => hsel j oj cs b hoj) hQ hy h1
      have hfree' : ∀ k ok, ops[k]? = some ok → k ≠ i → (listed.setIfInBounds j true).getD k true = false →
          (∀ e ∈ ok.after, Region.binds md e = true → e.on ≠ i) → oi.apart ops ok = true := fun k ok hk hki hun hno => by
        refine hfree k ok hk hki ?_ hno
        by_cases hjk : j = k
        · subst hjk; exact hjun
        · rw [getD_set_ne true hjk] at hun; exact hun
      have hcl' := hcl.set hj
      have hsz' : ops.size ≤ (listed.setIfInBounds j true).size := by simpa using hsz
      have hi0' : (listed.setIfInBounds j true).getD i true = false := by rw [getD_set_ne true hji]; exact hi0
      refine wpOp_mono (fun a' w' h3 => ?_) h2
      have hS' : HeldT S K (listed.setIfInBounds j true) w' := by
        have := h3.2.1
        rw [Array.setIfInBounds_comm _ _ (fun e => hji e.symm)] at this
        exact this.back hiK
      refine ⟨hS', ih (listed.setIfInBounds j true) a' w' hfree' (ready_mono hr (Ne.symm hji)) hcl' hsz' h3.1 (hS' (none_listed hcl' hsz' hi0' hw)) ?_⟩
      rw [Array.setIfInBounds_comm _ _ hji]
      exact h3.2.2
/-- take number i first -/
theorem wpAnyK_take (n : Nat) {i : Nat} {oi : Oper} {v : Value} {fuel : Nat} {listed : Array Bool} {a : Act} {w : World} (hi : ops[i]? = some oi)
    (hs : Region.noSelect ops = true) (hf : Region.free md ops listed i = true) (hr : (Region.ready md ops listed).contains i = true) (hc : (closedB md ops listed && decide (ops.size ≤ listed.size)) = true) (hk : ((K.all fun k => waitsOn md ops i n k) && !K.contains i) = true)
    (hQ : ∀ c a w, Q (.panic c) (a.put oi.dst v) w → Q (.panic c) a w) (hy : YieldsIf P ops S oi v a) (hS : S w)
    (h : wpAnyK P md ops Q S K fuel (listed.setIfInBounds i true) (a.put oi.dst v) w) : wpAnyK P md ops Q S K (fuel + 1) listed a w := by
  rw [Bool.and_eq_true] at hc hk
  exact wpAnyK_first hi (Region.noSelect_spec hs) hQ (fun k hk' => List.all_eq_true.1 hk.1 k hk') (by simpa using hk.2) fuel listed a w (Region.free_spec hi hf) (by simpa using hr) (closed_of hc.1) (of_decide_eq_true hc.2) hy hS h
theorem wpAnyK_free' {i : Nat} {oi : Oper} {v : Value} (hi : ops[i]? = some oi) (hsel : ∀ (j : Nat) (o : Oper) cs b, ops[j]? = some o → o.op ≠ .select cs b)
    (hQ : ∀ c a w, Q (.panic c) (a.put oi.dst v) w → Q (.panic c) a w) (hK : i ∉ K) :
    ∀ (fuel : Nat) (listed : Array Bool) (a : Act) (w : World),
      (∀ j oj, ops[j]? = some oj → j ≠ i → listed.getD j true = false → (∀ e ∈ oj.after, Region.binds md e = true → e.on ≠ i) → oi.apart ops oj = true) →
      i ∈ Region.ready md ops listed → YieldsIf P ops (fun _ => True) oi v a → HeldT S K listed w →
      wpAnyK P md ops Q S K fuel (listed.setIfInBounds i true) (a.put oi.dst v) w → wpAnyK P md ops Q S K (fuel + 1) listed a w := by
  intro fuel
  induction fuel with
  | zero =>
    intro listed a w _ hr hy hT H
    refine ⟨fun h => (by rw [h] at hr; cases hr), fun j hj => ?_⟩
    by_cases hji : j = i
    · subst hji; exact hy.wpOp hi trivial ⟨hT.set hK, H⟩
    · have := ready_mono hj hji
      rw [H.1] at this
      cases this
  | succ fuel ih =>
    intro listed a w hfree hr hy hT H
    refine ⟨fun h => (by rw [h] at hr; cases hr), fun j hj => ?_⟩
    by_cases hji : j = i
    · subst hji; exact hy.wpOp hi trivial ⟨hT.set hK, H⟩
    · have h1 := H.2 j (ready_mono hj hji)
      obtain ⟨hjun, oj, hoj, hall⟩ := mem_ready.1 hj
      have hi0 := (mem_ready.1 hr).1
      have hnot : ∀ e ∈ oj.after, Region.binds md e = true → e.on ≠ i := fun e he hb heq => not_listed hi0 (heq ▸ hall e he hb)
      have h2 := wpOp_putIf hoj (hfree j oj hoj hji hjun hnot) (fun cs b => hsel i oi cs b hi) (fun cs b => hsel j oj cs b hoj) hQ hy h1
      have hfree' : ∀ k ok, ops[k]? = some ok → k ≠ i → (listed.setIfInBounds j true).getD k true = false →
          (∀ e ∈ ok.after, Region.binds md e = true → e.on ≠ i) → oi.apart ops ok = true := fun k ok hk hki hun hno => by
        refine hfree k ok hk hki ?_ hno
        by_cases hjk : j = k
        · subst hjk; exact hjun
        · rw [getD_set_ne true hjk] at hun; exact hun
      refine wpOp_mono (fun a' w' h3 => ?_) h2
      have hS' : HeldT S K (listed.setIfInBounds j true) w' := by
        have := h3.2.1
        rw [Array.setIfInBounds_comm _ _ (fun e => hji e.symm)] at this
        exact this.back hK
      refine ⟨hS', ih (listed.setIfInBounds j true) a' w' hfree' (ready_mono hr (Ne.symm hji)) h3.1 hS' ?_⟩
      rw [Array.setIfInBounds_comm _ _ hji]
      exact h3.2.2
/-- take number i first: it yields in whatever world -/
theorem wpAnyK_free {i : Nat} {oi : Oper} {v : Value} {fuel : Nat} {listed : Array Bool} {a : Act} {w : World} (hi : ops[i]? = some oi)
    (hs : Region.noSelect ops = true) (hf : Region.free md ops listed i = true) (hr : (Region.ready md ops listed).contains i = true) (hK : (!K.contains i) = true)
    (hQ : ∀ c a w, Q (.panic c) (a.put oi.dst v) w → Q (.panic c) a w) (hy : YieldsIf P ops (fun _ => True) oi v a) (hT : HeldT S K listed w)
    (h : wpAnyK P md ops Q S K fuel (listed.setIfInBounds i true) (a.put oi.dst v) w) : wpAnyK P md ops Q S K (fuel + 1) listed a w :=
  wpAnyK_free' hi (Region.noSelect_spec hs) hQ (by simpa using hK) fuel listed a w (Region.free_spec hi hf) (by simpa using hr) hy hT h
theorem HeldT.of {listed : Array Bool} {w : World} (h : S w) : HeldT S K listed w := fun _ => h
/-- one of K has come up -/
theorem HeldT.past {listed : Array Bool} {w : World} (h : (K.any fun k => listed.getD k true) = true) : HeldT S K listed w := fun hk => by
  obtain ⟨k, h1, h2⟩ := List.any_eq_true.1 h
  rw [hk k h1] at h2
  cases h2
theorem wpAnyK_done {listed : Array Bool} {a : Act} {w : World} (hr : Region.ready md ops listed = []) (h : Q .normal a w) : ∀ fuel, wpAnyK P md ops Q S K fuel listed a w
  | 0 => ⟨hr, h⟩
  | _ + 1 => ⟨fun _ => h, by rw [hr]; simp⟩
def AllReadyK (P : Program) (md : Region.Mode) (ops : Array Oper) (Q : Exit → Act → World → Prop) (S : World → Prop) (K : List Nat) (fuel : Nat) (listed : Array Bool) (a : Act) (w : World) (rs : List Nat) : Prop :=
  ∀ i ∈ rs, wpOp P ops Q i (fun a' w' => HeldT S K (listed.setIfInBounds i true) w' ∧ wpAnyK P md ops Q S K fuel (listed.setIfInBounds i true) a' w') a w
theorem AllReadyK.nil {fuel : Nat} {listed : Array Bool} {a : Act} {w : World} : AllReadyK P md ops Q S K fuel listed a w [] := fun _ h => by cases h
theorem AllReadyK.cons {fuel : Nat} {listed : Array Bool} {a : Act} {w : World} {i : Nat} {o : Oper} {rs : List Nat} (ho : ops[i]? = some o)
    (h : ∀ K' : Act → World → Prop, Shut (∀ a w, S w → wpAnyK P md ops Q S K fuel (listed.setIfInBounds i true) a w → K' a w) → if Region.wanted o (yielded ops a.tmps) = true then Oper.wp P o a w K' Q else K' (a.put o.dst undef) w)
    (hs : AllReadyK P md ops Q S K fuel listed a w rs) : AllReadyK P md ops Q S K fuel listed a w (i :: rs) := fun j hj => by
  rcases List.mem_cons.1 hj with rfl | hj
  · exact wpOp_step ho (fun K' hK => h K' (fun a w hS hW => hK a w ⟨.of hS, hW⟩))
  · exact hs j hj
/-- an operation of K, or behind one -/
theorem AllReadyK.last {fuel : Nat} {listed : Array Bool} {a : Act} {w : World} {i : Nat} {o : Oper} {rs : List Nat} (hi : (K.any fun k => (listed.setIfInBounds i true).getD k true) = true) (ho : ops[i]? = some o)
    (h : ∀ K' : Act → World → Prop, Shut (∀ a w, wpAnyK P md ops Q S K fuel (listed.setIfInBounds i true) a w → K' a w) → if Region.wanted o (yielded ops a.tmps) = true then Oper.wp P o a w K' Q else K' (a.put o.dst undef) w)
    (hs : AllReadyK P md ops Q S K fuel listed a w rs) : AllReadyK P md ops Q S K fuel listed a w (i :: rs) := fun j hj => by
  rcases List.mem_cons.1 hj with rfl | hj
  · exact wpOp_step ho (fun K' hK => h K' (fun a w hW => hK a w ⟨.past hi, hW⟩))
  · exact hs j hj
theorem wpAnyK_ready {rs : List Nat} {fuel : Nat} {listed : Array Bool} {a : Act} {w : World} (hr : Region.ready md ops listed = rs) (hne : rs ≠ [])
    (h : AllReadyK P md ops Q S K fuel listed a w rs) : wpAnyK P md ops Q S K (fuel + 1) listed a w := ⟨fun h0 => absurd (hr ▸ h0) hne, hr ▸ h⟩
theorem wp_region_k {id : Nat} {a : Act} {w : World} (S : World → Prop) (K : List Nat) (hm : P.follows .mixedOrders = true)
    (h : wpAnyK P .any ops Q S K ops.size (Array.replicate ops.size false) a w.drew) : (Code.region id ops true).wp P Q a w :=
  wp_region_any hm (wpAny_of_k _ _ _ _ h)
end
end

section
open Go.RowKit

theorem cl_info : (Tryz.prog.info? 34).map (fun i => (i.zero, i.size, i.bytes)) = some (some (.agg #[.int .u8 0, .int .i64 0, .slice none 0 0, .int .i64 0]), 4, 48) := by kernel_rfl
theorem cl_size : ∀ u : World, (sizeOf 34).run Tryz.prog u = .ok 4 u := fun _ => by kernel_rfl
theorem step_app_call {ops : Array Oper} {o : Oper} {a : Act} {K : Act → World → Prop} {Q : Exit → Act → World → Prop} {E : Prop} (w : World) (hgd : o.guard = none) (s x : Operand)
    (ho : o.op = .call { callee := .builtin .append, args := #[s, x], argTypes := #[84, 84] })
    {ob : Option Nat} {v : Value} {n : Nat} {xs : List Value} (hs : a.eval s = v) (h : OffS w 4 ob v n xs) (hn : n ≤ 1000000)
    {ad : Addr} {c : Nat} {news : List Value} (hx : a.eval x = .slice (some ad) 1 c) (hl : news.length = 4) (hr : ∀ j u, news[j]? = some u → w.cell? (ad.add j) = some u) (h1 : ∀ u ∈ news, u.oneCell' = true)
    (hK : ∀ v' w' ob', OffS w' 4 ob' v' (n + 1) (xs ++ news) → GB w w' (fun b => ob = some b) → (ob' = ob ∨ ob' = some w.heap.size) → K (a.put o.dst v') w') :
    if Region.wanted o (yielded ops a.tmps) = true then Oper.wp Tryz.prog o a w K Q else E := by
  have hw : Region.wanted o (yielded ops a.tmps) = true := by simp [Region.wanted, hgd]
  rw [if_pos hw]
  obtain ⟨i0, hi, hz0, hz1, hz2⟩ := info_parts cl_info
  rw [← hz1] at h hl
  obtain ⟨v', w', ob', hrun, r1, r2, r3⟩ := run_offS (P := Tryz.prog) w 84 o.type 34 i0 _ Tryz.underlying84 hi hz0 (by rw [hz1]; rfl) (by omega) h hn ad c news hl hr h1
  rw [hz1] at r1
  unfold Oper.wp
  simp [execOp, ho, resolve, invoke, builtin, hs, hx, hrun, Result.andThen]
  exact hK _ _ _ r1 r2 r3

theorem ConnAt.cells {w : World} {base gc r : Nat} {L : List (Option Nat)} {RO : Nat → Prop} {s : CSt} (h : ConnAt w base L RO gc r s) :
    ∃ ao cap ov, w.cell? ⟨gc, 1, none⟩ = some (.slice ao s.line.length cap) ∧ w.cell? ⟨gc, 2, none⟩ = some (.int .i64 (s.fin : Int)) ∧ w.cell? ⟨gc, 3, none⟩ = some ov ∧ w.cell? ⟨gc, 6, none⟩ = some (.bool s.closed) ∧ (∀ i, w.frozen? ⟨gc, i, none⟩ = false) ∧ OutAt1 w RO ov s.out ∧ gc < w.heap.size := by
  obtain ⟨S, lv, ov, lob, lk, tk, WA, TA, wn, wc, tn, tc, h1, h2, h3, h4, h5, h6, h7, h8, h9, h10, -⟩ := h
  obtain ⟨ao, cap, hlv, -, -, -⟩ := h7.shape
  rw [hlv] at h3
  exact ⟨ao, cap, ov, blk_cell h3 1, blk_cell h3 2, blk_cell h3 3, blk_cell h3 6, fun i => blk_frozen h3 i, h10, blk_lt h3⟩
/-- the first call of the line goes out -/
theorem ConnAt.next {w : World} {base gc r : Nat} {L : List (Option Nat)} {RO : Nat → Prop} {s : CSt} (h : ConnAt w base L RO gc r s) {c : CCall} {rest : List CCall} (hl : s.line = c :: rest) :
    ∃ b off cap K kc v', w.cell? ⟨gc, 1, none⟩ = some (.slice (some ⟨b, off, none⟩) (rest.length + 1) cap) ∧
      w.cell? ⟨b, off, none⟩ = some (.int .u8 (c.op : Int)) ∧ w.cell? ⟨b, off + 1, none⟩ = some (.int .i64 (c.pol : Int)) ∧ w.cell? ⟨b, off + 2, none⟩ = some (.slice K c.key.length kc) ∧ w.cell? ⟨b, off + 3, none⟩ = some (.int .i64 (c.num : Int)) ∧
      c.key.length ≤ kc ∧ Rd w K (vals .u8 c.key) ∧ (∀ u : World, (Instr.slice 84 (.slice (some ⟨b, off, none⟩) (rest.length + 1) cap) (some (.int .i64 1)) none none).run Tryz.prog u = .ok v' u) ∧ (∃ ao' cap', v' = .slice ao' rest.length cap') ∧ KeyIn RO (K, kc) ∧
      ∀ (w1 : World) (o : Nat), Ext w w1 → w1.heap[o]? = some (.cells (callC (K, kc) c).toArray 34 (0, 0)) → w.heap.size ≤ o →
        ∃ L' RO', ConnAt ((w1.setCell ⟨gc, 1, none⟩ v').setCell ⟨gc, 3, none⟩ (.pointer (some ⟨o, 0, none⟩))) base L' RO' gc r { s with line := rest, out := some c } ∧ (∀ b, some b ∈ L' → some b ∈ L) ∧ ∀ b, RO' b → RO b ∨ b = o := by
  obtain ⟨S, lv, ov, lob, lk, tk, WA, TA, wn, wc, tn, tc, h1, h2, h3, h4, h5, h6, h7, h8, h9, h10, h11, h12, h13, h14, h15, h16, h17, h18, h19⟩ := h
  have h2' := h2
  rw [h1] at h2'
  obtain ⟨a1, a2, a3, a4⟩ := apart5 h2'
  rw [hl] at h6 h7 h8
  obtain ⟨k, lk', rfl⟩ : ∃ k lk', lk = k :: lk' := by
    cases lk with
    | nil => simp at h6
    | cons k t => exact ⟨k, t, rfl⟩
  obtain ⟨K, kc⟩ := k
  obtain ⟨ao, cap, hlv, -, -, hrd⟩ := h7.shape
  subst hlv
  have hcv : callsV ((K, kc) :: lk') (c :: rest) = callC (K, kc) c ++ callsV lk' rest := by unfold callsV; rw [List.zip_cons_cons, List.flatMap_cons]
  obtain ⟨b, off, rfl, hce⟩ := hrd (by rw [hcv]; simp [callC])
  rw [hcv] at hce h7
  obtain ⟨v', ob', hrun, hdr, hsub⟩ := OffS.drop (P := Tryz.prog) (t := 84) (e := 34) Tryz.underlying84 cl_size h7 1 (by simp) rfl
  obtain ⟨k1, k2⟩ := h8 ((K, kc), c) (by rw [List.zip_cons_cons]; exact List.mem_cons_self)
  have h7' : OffS w 4 ob' v' rest.length (callsV lk' rest) := by
    have : (callC (K, kc) c ++ callsV lk' rest).drop (1 * 4) = callsV lk' rest := by simp [callC]
    rw [this] at hdr
    simpa using hdr
  refine ⟨b, off, cap, K, kc, v', blk_cell h3 1, hce 0 _ rfl, hce 1 _ rfl, hce 2 _ rfl, hce 3 _ rfl, k1, k2, hrun, by obtain ⟨x1, x2, x3, _⟩ := h7'.shape; exact ⟨x1, x2, x3⟩, h9 (K, kc) List.mem_cons_self, fun w1 o x ho hsz => ?_⟩
  have hgc := (h19 gc (by rw [h1]; simp))
  have gx : GB w w1 (· = gc) := GB.of_ext _ x
  have g1 : GB w (w1.setCell ⟨gc, 1, none⟩ v') (· = gc) := gx.set gc 1 _ (.inl rfl)
  have g : GB w ((w1.setCell ⟨gc, 1, none⟩ v').setCell ⟨gc, 3, none⟩ (.pointer (some ⟨o, 0, none⟩))) (· = gc) := g1.set gc 3 _ (.inl rfl)
  have hog : o ≠ gc := fun e => by omega
  have hR : ∀ b, RO b → ¬ b = gc := fun b hb e => (h18 b hb).1 (by rw [h1, e]; simp)
  have hmem : ∀ b, some b ∈ [some gc, some r, ob', (Value.slice WA wn wc).ownBlock, (Value.slice TA tn tc).ownBlock] → some b ∈ L := by
    intro b hb
    rw [h1]
    rcases List.mem_cons.1 hb with e | hb
    · rw [e]; exact List.mem_cons_self
    · refine List.mem_cons_of_mem _ ?_
      rcases List.mem_cons.1 hb with e | hb
      · rw [e]; exact List.mem_cons_self
      · refine List.mem_cons_of_mem _ ?_
        rcases List.mem_cons.1 hb with e | hb
        · rw [hsub b e.symm]; exact List.mem_cons_self
        · exact List.mem_cons_of_mem _ hb
  have hgo : GB w1 ((w1.setCell ⟨gc, 1, none⟩ v').setCell ⟨gc, 3, none⟩ (.pointer (some ⟨o, 0, none⟩))) (· = gc) := ((GB.refl w1 (· = gc)).set gc 1 _ (.inl rfl)).set gc 3 _ (.inl rfl)
  refine ⟨[some gc, some r, ob', (Value.slice WA wn wc).ownBlock, (Value.slice TA tn tc).ownBlock], fun b => RO b ∨ b = o, ⟨S, v', .pointer (some ⟨o, 0, none⟩), ob', lk', tk, WA, TA, wn, wc, tn, tc, rfl, apart5_mk a1 (fun q e => a2 q (hsub q e)) (fun q e => ⟨(a3 q e).1, (a3 q e).2.1, fun e2 => (a3 q e).2.2 (hsub q e2)⟩) (fun q e => ⟨(a4 q e).1, (a4 q e).2.1, fun e2 => (a4 q e).2.2.1 (hsub q e2), (a4 q e).2.2.2⟩), ?_, IsRdr.gb h4 g (fun e => a1 e.symm) (fun b hb => hR b (h5 b hb)), fun b hb => .inl (h5 b hb), by simpa using h6, h7'.gb g (fun b e => (a2 b (hsub b e)).1), ?_, fun k hk a e => .inl (h9 k (List.mem_cons_of_mem _ hk) a e), ?_, h11, g.own h12 (fun b e => (a3 b e).1), h13, h14, g.own h15 (fun b e => (a4 b e).1), h16.gbk h17 g hR, fun k hk a e => .inl (h17 k hk a e), fun b hb => ?_, fun b hb => ?_⟩, hmem, fun b e => e⟩
  · exact blk_set (blk_set (blk_ext h3 x) 1 _) 3 _
  · have h8' : KeysRd w (fun c : CCall => c.key) lk' rest := fun p hp => h8 p (by rw [List.zip_cons_cons]; exact List.mem_cons_of_mem _ hp)
    exact h8'.gbk (fun k hk => h9 k (List.mem_cons_of_mem _ hk)) g hR
  · exact ⟨o, (K, kc), rfl, hgo.blk ho hog, k1, g.rd k2 (fun a e => hR _ (h9 (K, kc) List.mem_cons_self a e)), .inr rfl, fun a e => .inl (h9 (K, kc) List.mem_cons_self a e)⟩
  · rcases hb with hb | rfl
    · exact ⟨fun e => (h18 b hb).1 (hmem b e), (h18 b hb).2.1, Nat.lt_of_lt_of_le (h18 b hb).2.2 g.size⟩
    · refine ⟨fun e => ?_, by omega, Nat.lt_of_lt_of_le (blk_lt ho) hgo.size⟩
      have := (h19 b (hmem b e)).2
      omega
  · have := h19 b (hmem b hb)
    exact ⟨this.1, Nat.lt_of_lt_of_le this.2 g.size⟩
theorem ConnAt.bounds {w : World} {base gc r : Nat} {L : List (Option Nat)} {RO : Nat → Prop} {s : CSt} (h : ConnAt w base L RO gc r s) : some gc ∈ L ∧ (∀ b, some b ∈ L → base ≤ b ∧ b < w.heap.size) ∧ ∀ b, RO b → some b ∉ L ∧ base ≤ b ∧ b < w.heap.size := by
  obtain ⟨S, lv, ov, lob, lk, tk, WA, TA, wn, wc, tn, tc, h1, h2, h3, h4, h5, h6, h7, h8, h9, h10, h11, h12, h13, h14, h15, h16, h17, h18, h19⟩ := h
  exact ⟨by rw [h1]; simp, h19, h18⟩
/-- a box that a call made is none of the connection's -/
theorem conn_go_end {w W w1 w2 w3 : World} {base gc r : Nat} {L L1 : List (Option Nat)} {RO RO1 : Nat → Prop} {s s2 : CSt} (h : ConnAt w base L RO gc r s) (x : Ext w W) (hW : w.heap.size < W.heap.size) (k2 : GB W w1 (fun b => some b ∈ L)) (k3 : ∀ b, some b ∈ L1 → some b ∈ L ∨ W.heap.size ≤ b) (k4 : ∀ b, RO1 b → RO b ∨ some b ∈ L ∨ W.heap.size ≤ b)
    (k : ConnAt w2 base L1 RO1 gc r s2) (g2 : GB w1 w2 (· = gc)) (g3 : GB w2 w3 (· = w.heap.size)) : ConnGo w base L RO gc r s2 w3 := by
  obtain ⟨b1, b2, b3⟩ := h.bounds
  have n1 : some w.heap.size ∉ L := fun e => Nat.lt_irrefl _ (b2 _ e).2
  refine ⟨L1, RO1, k.gb g3 (fun b e => ?_), ?_, fun b e => (k3 b e).imp id (fun e => Nat.le_trans x.size e), fun b e => (k4 b e).imp id (fun e => e.imp id (fun e => Nat.le_trans x.size e))⟩
  · subst e
    refine ⟨fun e => (k3 _ e).elim (fun e => n1 e) (fun e => by omega), fun e => (k4 _ e).elim (fun e => Nat.lt_irrefl _ (b3 _ e).2.2) (fun e => e.elim (fun e => n1 e) (fun e => by omega))⟩
  · exact ((GB.back x k2).trans g2 (fun i e => .inl (by rw [e]; exact b1))).trans g3 (fun i e => .inr (Nat.le_of_eq e.symm))
theorem cell_far {w : World} {b b' i j : Nat} {v x : Value} (h : w.cell? ⟨b', j, none⟩ = some v) (hne : ¬ b' = b) : (w.setCell ⟨b, i, none⟩ x).cell? ⟨b', j, none⟩ = some v := ((GB.refl w (· = b)).set b i x (.inl rfl)).cell h hne
theorem cell_far4 {w : World} {b b' j : Nat} {v x0 x1 x2 x3 : Value} (h : w.cell? ⟨b', j, none⟩ = some v) (hne : ¬ b' = b) : ((((w.setCell ⟨b, 0, none⟩ x0).setCell ⟨b, 1, none⟩ x1).setCell ⟨b, 2, none⟩ x2).setCell ⟨b, 3, none⟩ x3).cell? ⟨b', j, none⟩ = some v := cell_far (cell_far (cell_far (cell_far h hne) hne) hne) hne
theorem conn_go_then {w w1 w2 : World} {base gc r : Nat} {L L1 : List (Option Nat)} {RO RO1 : Nat → Prop} {s2 : CSt} (k2 : GB w w1 (fun b => some b ∈ L)) (k3 : ∀ b, some b ∈ L1 → some b ∈ L ∨ w.heap.size ≤ b) (k4 : ∀ b, RO1 b → RO b ∨ some b ∈ L ∨ w.heap.size ≤ b) (h : ConnGo w1 base L1 RO1 gc r s2 w2) : ConnGo w base L RO gc r s2 w2 := by
  obtain ⟨L2, RO2, h1, h2, h3, h4⟩ := h
  have hs := k2.size
  refine ⟨L2, RO2, h1, k2.trans h2 k3, fun b e => ?_, fun b e => ?_⟩
  · rcases h3 b e with e | e
    · exact k3 b e
    · exact .inr (by omega)
  · rcases h4 b e with e | e | e
    · exact k4 b e
    · exact .inr (k3 b e)
    · exact .inr (.inr (by omega))
theorem zipV_erase {α : Type} (f : KRef → α → List Value) (s : Nat) (hf : ∀ k x, (f k x).length = s) : ∀ (ks : List KRef) (l : List α) (i : Nat), ks.length = l.length → i < l.length → ((ks.eraseIdx i).zip (l.eraseIdx i)).flatMap (fun p => f p.1 p.2) = delF s ((ks.zip l).flatMap fun p => f p.1 p.2) i
  | [], [], _, _, h => by simp at h
  | [], _ :: _, _, h, _ => by cases h
  | _ :: _, [], _, h, _ => by cases h
  | k :: ks, x :: l, 0, _, _ => by
    unfold delF
    rw [List.zip_cons_cons, List.flatMap_cons, Nat.zero_mul, List.take_zero, Nat.zero_add, List.drop_left' (hf k x)]
    rfl
  | k :: ks, x :: l, i + 1, h, hi => by
    have ih := zipV_erase f s hf ks l i (by simpa using h) (by simpa using hi)
    unfold delF at ih ⊢
    rw [List.eraseIdx_cons_succ, List.eraseIdx_cons_succ, List.zip_cons_cons, List.flatMap_cons, ih, List.zip_cons_cons, List.flatMap_cons, ← List.append_assoc]
    have h1 : (f k x ++ (ks.zip l).flatMap fun p => f p.1 p.2).take ((i + 1) * s) = f k x ++ ((ks.zip l).flatMap fun p => f p.1 p.2).take (i * s) := by
      rw [show (i + 1) * s = (f k x).length + i * s by rw [hf, Nat.add_mul, Nat.one_mul, Nat.add_comm], List.take_length_add_append]
    have h2 : (f k x ++ (ks.zip l).flatMap fun p => f p.1 p.2).drop ((i + 1) * s + s) = ((ks.zip l).flatMap fun p => f p.1 p.2).drop (i * s + s) := by
      rw [show (i + 1) * s + s = (f k x).length + (i * s + s) by rw [hf, Nat.add_mul, Nat.one_mul]; omega, List.drop_length_add_append]
    rw [h1, h2]
theorem zip_erase_sub {α β : Type} : ∀ (ks : List α) (l : List β) (i : Nat), ks.length = l.length → ∀ p ∈ (ks.eraseIdx i).zip (l.eraseIdx i), p ∈ ks.zip l
  | [], [], _, _, p, h => by simp at h
  | [], _ :: _, _, h, _, _ => by cases h
  | _ :: _, [], _, h, _, _ => by cases h
  | k :: ks, x :: l, 0, _, p, hp => by
    rw [List.zip_cons_cons]
    exact List.mem_cons_of_mem _ hp
  | k :: ks, x :: l, i + 1, h, p, hp => by
    rw [List.eraseIdx_cons_succ, List.eraseIdx_cons_succ, List.zip_cons_cons] at hp
    rw [List.zip_cons_cons]
    rcases List.mem_cons.1 hp with hp | hp
    · rw [hp]; exact List.mem_cons_self
    · exact List.mem_cons_of_mem _ (zip_erase_sub ks l i (by simpa using h) p hp)
theorem toks_one {ks : List KRef} {l : List CTok} : ∀ u ∈ toksV ks l, u.oneCell' = true := fun u hu => by
  unfold toksV at hu
  obtain ⟨p, _, hp⟩ := List.mem_flatMap.1 hu
  simp [tokC] at hp
  rcases hp with rfl | rfl | rfl <;> rfl
theorem idx_lt {c : CCall} : ∀ {l : List CTok} {i : Nat}, idxT c l = some i → i < l.length
  | [], _, h => by cases h
  | t :: l, i, h => by
    unfold idxT at h
    split at h
    · injection h with h
      subst h
      simp
    · cases hx : idxT c l with
      | none => rw [hx] at h; cases h
      | some j =>
        rw [hx] at h
        injection h with h
        subst h
        have := idx_lt hx
        simpa using this
/-- the call that was out is answered -/
def repliedS (s : CSt) (c : CCall) (e sn : Int) (B : List Nat) : CSt :=
  if e = 0 then
    (if c.op = 2 then { wrote s 0 B with out := none, led := s.led ++ [⟨(c.pol : Int), c.key, sn⟩] }
    else if c.op = 3 then { wrote s 0 B with out := none, led := match idxT c s.led with | none => s.led | some i => s.led.eraseIdx i }
    else { wrote s 0 B with out := none })
  else { wrote s 0 B with out := none }
theorem wrote_led (s : CSt) (q : Int) (B : List Nat) : (wrote s q B).led = s.led := by unfold wrote; split <;> rfl
theorem wrote_out (s : CSt) (q : Int) (B : List Nat) : (wrote s q B).out = s.out := by unfold wrote; split <;> rfl
theorem wrote_one (s : CSt) (B : List Nat) : wrote s 1 B = s := by unfold wrote; rw [if_neg (by omega)]
def ReplyR (w : World) (base : Nat) (L : List (Option Nat)) (RO : Nat → Prop) (gc r : Nat) (s : CSt) (c : CCall) (e : Int) (g : Bool) (N : List Int) (sn : Int) (x : Ending) (w' : World) : Prop :=
  ∃ q B, RepIs e g N q B ∧ x = .returned (.int .i64 q) ∧ ConnGo w base L RO gc r (if q = 0 then repliedS s c e sn B else s) w'
set_option maxHeartbeats 8000000 in
set_option maxRecDepth 100000 in
theorem creply_call (w : World) (base gc r : Nat) (L : List (Option Nat)) (RO : Nat → Prop) (s : CSt) (h : ConnAt w base L RO gc r s) (hi : CInv s) (hwr : s.wr.length ≤ 1000000) (hled : s.led.length ≤ 100000 - 1) (c : CCall) (ho : s.out = some c) (e : Nat) (he : e ≤ 16) (g : Bool) (l t sn nw : Int) :
    Calls Tryz.prog 104 #[.pointer (some ⟨gc, 0, none⟩), .agg #[.int .i64 (e : Int), .bool g, .int .i64 l, .int .i64 t, .int .i64 sn, .int .i64 nw]] w (ReplyR w base L RO gc r s c (e : Int) g [l, t, sn, nw] sn) := by
  obtain ⟨W, hW⟩ : ∃ W, w.alloc (.cells #[.int .i64 (e : Int), .bool g, .int .i64 l, .int .i64 t, .int .i64 sn, .int .i64 nw] 39) = W := ⟨_, rfl⟩
  have xW : Ext w W := by rw [← hW]; exact (Ext.refl w).alloc _
  have KP := Lib.hid (show W.heap[w.heap.size]? = some (.cells #[.int .i64 (e : Int), .bool g, .int .i64 l, .int .i64 t, .int .i64 sn, .int .i64 nw] 39 (0, 0)) by rw [← hW]; exact blk_new w _)
  have PU := Lib.hid (cput_any W base gc r L RO s (h.ext xW) hwr e he g l t sn nw)
  obtain ⟨ao, cp, ov, -, -, d3, -, -, o1, -⟩ := (h.ext xW).cells
  rw [ho] at o1
  obtain ⟨o, kk, rfl, -⟩ := o1
  have hL0 : some w.heap.size ∉ L := fun e => Nat.lt_irrefl _ (h.bounds.2.1 _ e).2
  have HL0 := Lib.hid hL0; have XW := Lib.hid xW; have H := Lib.hid h; have HI := Lib.hid hi; have HO := Lib.hid ho
  clear h hi ho xW hL0
  go_enter Tryz.func104, Tryz.ntmps104
  go_upto_region 1 with fail
  (try rw [hW])
  clear hW
  have p0 : W.cell? ⟨w.heap.size, 0, none⟩ = some (.int .i64 (e : Int)) := blk_cell KP.out 0
  have p1 : W.cell? ⟨w.heap.size, 1, none⟩ = some (.bool g) := blk_cell KP.out 1
  have p2 : W.cell? ⟨w.heap.size, 2, none⟩ = some (.int .i64 l) := blk_cell KP.out 2
  have p3 : W.cell? ⟨w.heap.size, 3, none⟩ = some (.int .i64 t) := blk_cell KP.out 3
  have p4 : W.cell? ⟨w.heap.size, 4, none⟩ = some (.int .i64 sn) := blk_cell KP.out 4
  have p5 : W.cell? ⟨w.heap.size, 5, none⟩ = some (.int .i64 nw) := blk_cell KP.out 5
  go_wp2_with fail
  refine PU.out.mono ?_
  rintro x w1 ⟨q, B, hri, rfl, L1, RO1, k1, k2, k3, k4⟩
  have HRI := Lib.hid hri
  have K1 := Lib.hid k1; have K2 := Lib.hid k2; have K3 := Lib.hid k3; have K4 := Lib.hid k4
  have kp := k2.blk KP.out HL0.out
  have KP1 := Lib.hid kp
  clear p0 p1 p2 p3 p4 p5 d3 k2 k3 k4
  rcases hri with ⟨rfl, rfl, -⟩ | ⟨rfl, -⟩
  · clear k1 kp
    go_wp2_with fail
    go_ret
    refine ⟨1, [], HRI.out, rfl, ?_⟩
    rw [if_neg (by omega)]
    have := K1.out
    rw [wrote_one] at this
    exact ConnGo.back XW.out ⟨L1, RO1, this, K2.out, K3.out, K4.out⟩
  · obtain ⟨ao1, cp1, ov1, -, -, d3, -, fz, o1, hgl⟩ := k1.cells
    rw [wrote_out, HO.out] at o1
    obtain ⟨o', ⟨K, kc⟩, rfl, hblk, hkc, hrd, hro, hki⟩ := o1
    have f3 := fz 3
    obtain ⟨op, pol, key, num⟩ := c
    dsimp only [callC] at hblk hkc hrd
    obtain ⟨m, Hm⟩ : ∃ m, Hid (key.length = m) := ⟨_, rfl⟩
    rw [Hm.out] at hkc hblk
    have u0 : w1.cell? ⟨o', 0, none⟩ = some (.int .u8 (op : Int)) := blk_cell hblk 0
    have u1 : w1.cell? ⟨o', 1, none⟩ = some (.int .i64 (pol : Int)) := blk_cell hblk 1
    have u2 : w1.cell? ⟨o', 2, none⟩ = some (.slice K m kc) := blk_cell hblk 2
    have u3 : w1.cell? ⟨o', 3, none⟩ = some (.int .i64 (num : Int)) := blk_cell hblk 3
    obtain ⟨V, hV⟩ : ∃ V, w1.alloc (.cells #[.int .u8 (op : Int), .int .i64 (pol : Int), .slice K m kc, .int .i64 (num : Int)] 34) = V := ⟨_, rfl⟩
    have xV : Ext w1 V := by rw [← hV]; exact (Ext.refl w1).alloc _
    have KV := Lib.hid (show V.heap[w1.heap.size]? = some (.cells #[.int .u8 (op : Int), .int .i64 (pol : Int), .slice K m kc, .int .i64 (num : Int)] 34 (0, 0)) by rw [← hV]; exact blk_new w1 _)
    have hng : ¬ w1.heap.size = gc := by omega
    have hng0 : ¬ w.heap.size = gc := fun e => HL0.out (by rw [e]; exact H.out.bounds.1)
    have e3 := ext_cell xV d3; have h3 := frz_ext2 xV d3 f3
    obtain ⟨kX, gX⟩ := (k1.ext xV).outNone
    clear k1 kp
    go_upto_region 10 with fail
    (try rw [hV])
    clear hV u0 u1 u2 u3 d3 f3
    go_upto_region 11 with fail
    obtain ⟨X, hX⟩ : ∃ X, V.setCell ⟨gc, 3, none⟩ (.pointer none) = X := ⟨_, rfl⟩
    rw [hX] at kX gX
    (try rw [hX])
    have x8 := gX.blk KV.out hng
    have x3 := gX.blk (blk_ext KP1.out xV) hng0
    have a0 : X.cell? ⟨w1.heap.size, 0, none⟩ = some (.int .u8 (op : Int)) := blk_cell x8 0
    have b0 : X.cell? ⟨w.heap.size, 0, none⟩ = some (.int .i64 (e : Int)) := blk_cell x3 0
    have gwX : GB w1 X (· = gc) := GB.back xV gX
    have GO1 := Lib.hid (fun (s2 : CSt) (w2 : World) (hh : ConnGo X base L1 RO1 gc r s2 w2) => ConnGo.back XW.out (conn_go_then K2.out K3.out K4.out (conn_go_then (L1 := L1) (RO1 := RO1) (gwX.more (fun b _ e => by rw [e]; exact K1.out.bounds.1)) (fun b e => .inl e) (fun b e => .inl e) hh)))
    have KX := Lib.hid kX
    have X8 := Lib.hid x8; have X3 := Lib.hid x3
    have HKR := Lib.hid (gX.rd (hrd.ext xV) (fun p hp e => (K1.out.bounds.2.2 _ (hki p hp)).1 (by rw [e]; exact K1.out.bounds.1)))
    have HKI := Lib.hid hki
    clear hX e3 h3 kX gX x8 x3 gwX hrd hki fz hblk hro xV
    by_cases he0 : e = 0
    · subst he0
      by_cases h2 : op = 2
      · subst h2
        have LG := KX.out.ledger
        dsimp only at LG
        rw [wrote_led] at LG
        obtain ⟨TA, tc, tk, c5, f5, hnb, ow, htk, hkr, hkin, hbX, hmem, step⟩ := LG
        obtain ⟨n, Hn⟩ : ∃ n, Hid (s.led.length = n) := ⟨_, rfl⟩
        rw [Hn.out] at c5 hnb ow htk hmem step hled
        have a1 : X.cell? ⟨w1.heap.size, 1, none⟩ = some (.int .i64 (pol : Int)) := blk_cell X8.out 1
        have a2 : X.cell? ⟨w1.heap.size, 2, none⟩ = some (.slice K m kc) := blk_cell X8.out 2
        have b4 : X.cell? ⟨w.heap.size, 4, none⟩ = some (.int .i64 sn) := blk_cell X3.out 4
        have C5 := Lib.hid c5; have OW := Lib.hid ow; have STEP := Lib.hid step; have NB := Lib.hid hnb; have HTK := Lib.hid htk; have HKRD := Lib.hid hkr; have HKIN := Lib.hid hkin
        have nb8 : (Value.slice TA n tc).ownBlock ≠ some w1.heap.size := fun e => Nat.lt_irrefl _ (K1.out.bounds.2.1 _ (hmem _ e)).2
        have nb3 : (Value.slice TA n tc).ownBlock ≠ some w.heap.size := fun e => (K3.out _ (hmem _ e)).elim HL0.out (fun e => by have := blk_lt KP.out; omega)
        clear ow step hnb htk hkr hkin hmem
        go_upto_region 15 with fail
        refine wp_region_k (fun u => u.cell? ⟨gc, 5, none⟩ = some (.slice TA n tc) ∧ u.cell? ⟨w1.heap.size, 1, none⟩ = some (.int .i64 (pol : Int)) ∧ u.cell? ⟨w1.heap.size, 2, none⟩ = some (.slice K m kc) ∧ u.cell? ⟨w.heap.size, 4, none⟩ = some (.int .i64 sn)) [16] (by kernel_rfl) ?_
        have hHeld := And.intro (drew_cell c5) (And.intro (drew_cell a1) (And.intro (drew_cell a2) (drew_cell b4)))
        have XD : Ext X X.drew := (Ext.refl X).drew
        clear a0 b0 a1 a2 b4 c5
        generalize X.drew = U at XD hHeld ⊢
        refine wpAnyK_free (i := 0) (oi := _) (v := ?_) rfl (by kernel_rfl) (by kernel_rfl) (by kernel_rfl) (by kernel_rfl) (fun _ _ _ h => h) (Or.inl ⟨by rfl, ?_⟩) (HeldT.of hHeld) ?_
        rotate_left
        · intro w _; go_simp
          (try with_reducible rfl)
        (try simp only [Act.put])
        refine wpAnyK_free (i := 1) (oi := _) (v := ?_) rfl (by kernel_rfl) (by kernel_rfl) (by kernel_rfl) (by kernel_rfl) (fun _ _ _ h => h) (Or.inl ⟨by rfl, ?_⟩) (HeldT.of hHeld) ?_
        rotate_left
        · intro w _; go_simp
          (try with_reducible rfl)
        (try simp only [Act.put])
        refine wpAnyK_free (i := 2) (oi := _) (v := ?_) rfl (by kernel_rfl) (by kernel_rfl) (by kernel_rfl) (by kernel_rfl) (fun _ _ _ h => h) (Or.inl ⟨by rfl, ?_⟩) (HeldT.of hHeld) ?_
        rotate_left
        · intro w _; go_simp
          (try with_reducible rfl)
        (try simp only [Act.put])
        refine wpAnyK_free (i := 3) (oi := _) (v := ?_) rfl (by kernel_rfl) (by kernel_rfl) (by kernel_rfl) (by kernel_rfl) (fun _ _ _ h => h) (Or.inl ⟨by rfl, ?_⟩) (HeldT.of hHeld) ?_
        rotate_left
        · intro w _; go_simp
          (try with_reducible rfl)
        (try simp only [Act.put])
        refine wpAnyK_free (i := 5) (oi := _) (v := ?_) rfl (by kernel_rfl) (by kernel_rfl) (by kernel_rfl) (by kernel_rfl) (fun _ _ _ h => h) (Or.inl ⟨by rfl, ?_⟩) (HeldT.of hHeld) ?_
        rotate_left
        · intro w _; go_simp
          (try with_reducible rfl)
        (try simp only [Act.put])
        refine wpAnyK_free (i := 7) (oi := _) (v := ?_) rfl (by kernel_rfl) (by kernel_rfl) (by kernel_rfl) (by kernel_rfl) (fun _ _ _ h => h) (Or.inl ⟨by rfl, ?_⟩) (HeldT.of hHeld) ?_
        rotate_left
        · intro w _; go_simp
          (try with_reducible rfl)
        (try simp only [Act.put])
        refine wpAnyK_free (i := 9) (oi := _) (v := ?_) rfl (by kernel_rfl) (by kernel_rfl) (by kernel_rfl) (by kernel_rfl) (fun _ _ _ h => h) (Or.inl ⟨by rfl, ?_⟩) (HeldT.of hHeld) ?_
        rotate_left
        · intro w _; go_simp
          (try with_reducible rfl)
        (try simp only [Act.put])
        refine wpAnyK_take 20 (i := 4) (oi := _) (v := ?_) rfl (by kernel_rfl) (by kernel_rfl) (by kernel_rfl) (by kernel_rfl) (by kernel_rfl) (fun _ _ _ h => h) (Or.inl ⟨by rfl, ?_⟩) (by assumption) ?_
        rotate_left
        · intro w hSw; (try dsimp only at hSw); go_simp
          (try with_reducible rfl)
        (try simp only [Act.put])
        refine wpAnyK_take 20 (i := 6) (oi := _) (v := ?_) rfl (by kernel_rfl) (by kernel_rfl) (by kernel_rfl) (by kernel_rfl) (by kernel_rfl) (fun _ _ _ h => h) (Or.inl ⟨by rfl, ?_⟩) (by assumption) ?_
        rotate_left
        · intro w hSw; (try dsimp only at hSw); go_simp
          (try with_reducible rfl)
        (try simp only [Act.put])
        refine wpAnyK_take 20 (i := 8) (oi := _) (v := ?_) rfl (by kernel_rfl) (by kernel_rfl) (by kernel_rfl) (by kernel_rfl) (by kernel_rfl) (fun _ _ _ h => h) (Or.inl ⟨by rfl, ?_⟩) (by assumption) ?_
        rotate_left
        · intro w hSw; (try dsimp only at hSw); go_simp
          (try with_reducible rfl)
        (try simp only [Act.put])
        refine wpAnyK_take 20 (i := 10) (oi := _) (v := ?_) rfl (by kernel_rfl) (by kernel_rfl) (by kernel_rfl) (by kernel_rfl) (by kernel_rfl) (fun _ _ _ h => h) (Or.inl ⟨by rfl, ?_⟩) (by assumption) ?_
        rotate_left
        · intro w hSw; (try dsimp only at hSw); go_simp
          (try with_reducible rfl)
        (try simp only [Act.put])
        refine wpAnyK_free (i := 11) (oi := _) (v := ?_) rfl (by kernel_rfl) (by kernel_rfl) (by kernel_rfl) (by kernel_rfl) (fun _ _ _ h => h) (Or.inl ⟨by rfl, ?_⟩) (HeldT.of hHeld) ?_
        rotate_left
        · intro w _; go_simp
          (try with_reducible rfl)
        (try simp only [Act.put])
        refine wpAnyK_ready (rs := [12]) (by kernel_rfl) (by simp) (AllReadyK.cons (o := _) rfl (fun K' hK => ?_) AllReadyK.nil)
        have c5 := hHeld.1
        have a1 := hHeld.2.1
        have a2 := hHeld.2.2.1
        have b4 := hHeld.2.2.2
        go_simp
        have yU : Ext U (U.alloc (.cells #[.int .i64 (pol : Int), .slice K m kc, .int .i64 sn] 120)) := (Ext.refl U).alloc _
        have yX := XD.trans yU
        refine hK.out _ _ ⟨ext_cell yU c5, ext_cell yU a1, ext_cell yU a2, ext_cell yU b4⟩ ?_
        clear hK K'
        (try simp only [Act.put])
        have e5 := ext_cell yU c5; have e1 := ext_cell yU a1; have e2 := ext_cell yU a2; have e4 := ext_cell yU b4
        have f5Y := frz_ext2 yX C5.out f5
        have OWY := Lib.hid (own_ext OW.out yX)
        have RDY := Lib.hid (show Rd (U.alloc (.cells #[.int .i64 (pol : Int), .slice K m kc, .int .i64 sn] 120)) (some ⟨U.heap.size, 0, none⟩) [.int .i64 (pol : Int), .slice K m kc, .int .i64 sn] from rd_newk U [.int .i64 (pol : Int), .slice K m kc, .int .i64 sn] _ rfl)
        have hbY := Nat.le_trans hbX yX.size
        refine wpAnyK_ready (rs := [13]) (by kernel_rfl) (by simp) (AllReadyK.cons (o := _) rfl (fun K' hK => ?_) AllReadyK.nil)
        refine step_app_tok (U.alloc (.cells #[.int .i64 (pol : Int), .slice K m kc, .int .i64 sn] 120)) rfl (.tmp 57) (.tmp 65) rfl base (by rfl) OWY.out (by rfl) RDY.out rfl rfl rfl (by omega) hbY ?_
        intro B' cb' w6 o6 g6 b6
        have nb5 := NB.out
        have q5 := g6.cell e5 nb5.symm; have q1 := g6.cell e1 nb8.symm; have q2 := g6.cell e2 nb8.symm; have q4 := g6.cell e4 nb3.symm
        have F5 := frz_grown g6 e5 f5Y nb5
        have O6 := Lib.hid o6; have G6 := Lib.hid g6; have B6 := Lib.hid b6
        clear o6 g6 b6
        refine hK.out _ _ ⟨q5, q1, q2, q4⟩ ?_
        clear hK K'
        (try simp only [Act.put])
        refine wpAnyK_ready (rs := [14]) (by kernel_rfl) (by simp) (AllReadyK.cons (o := _) rfl (fun K' hK => ?_) AllReadyK.nil)
        go_simp
        refine hK.out _ _ ⟨q5, q1, q2, q4⟩ ?_
        clear hK K'
        (try simp only [Act.put])
        refine wpAnyK_ready (rs := [15]) (by kernel_rfl) (by simp) (AllReadyK.cons (o := _) rfl (fun K' hK => ?_) AllReadyK.nil)
        go_simp
        refine hK.out _ _ ⟨q5, q1, q2, q4⟩ ?_
        clear hK K'
        (try simp only [Act.put])
        refine wpAnyK_ready (rs := [16]) (by kernel_rfl) (by simp) (AllReadyK.last (o := _) (by kernel_rfl) rfl (fun K' hK => ?_) AllReadyK.nil)
        go_simp
        refine hK.out _ _ ?_
        clear hK K'
        (try simp only [Act.put])
        refine wpAnyK_done (by kernel_rfl) ?_ _
        go_wp2_with fail
        go_ret
        refine ⟨0, B, HRI.out, rfl, ?_⟩
        rw [if_pos rfl]
        unfold repliedS
        dsimp only
        rw [if_pos (by rfl), if_pos (by rfl)]
        refine GO1.out _ _ ?_
        have o6 := O6.out
        rw [← Hm.out] at o6
        have hlen : tk.length = s.led.length := by rw [HTK.out, Hn.out]
        have := STEP.out B' (n + 1) cb' w6 (s.led ++ [⟨(pol : Int), key, sn⟩]) (tk ++ [(K, kc)]) (by simp [Hn.out]) (by simp [HTK.out, Hn.out]) (by unfold toksV; rw [zipV_snoc tokC hlen (K, kc) ⟨(pol : Int), key, sn⟩]; exact o6) (HKRD.out.snoc hlen (by dsimp only; rw [Hm.out]; exact hkc) HKR.out) (fun k hk => by
          rcases List.mem_append.1 hk with hk | hk
          · exact HKIN.out k hk
          · rw [List.mem_singleton.1 hk]; exact HKI.out) (((GB.refl X _).ext (XD.trans yU)).grown G6.out (fun q e => .inl e)) (fun b e => by
          rcases B6.out with h9 | h9
          · exact .inl (h9 ▸ e)
          · rw [h9] at e
            injection e with e
            exact .inr (by rw [← e]; exact (XD.trans yU).size))
        exact this
      · by_cases h3 : op = 3
        · subst h3
          have LG := KX.out.ledger
          dsimp only at LG
          rw [wrote_led] at LG
          obtain ⟨TA, tc, tk, c5, f5, hnb, ow, htk, hkr, hkin, hbX, hmem, step⟩ := LG
          obtain ⟨n, Hn⟩ : ∃ n, Hid (s.led.length = n) := ⟨_, rfl⟩
          have IX := Lib.hid (cindex_any X TA n tc s.led tk w1.heap.size kc m pol num 3 K key Hn.out (by have := Hn.out; omega) ⟨htk, rd_own3 ow, hkr⟩ HI.out.2.2.2.2 X8.out Hm.out (HI.out.2.2.1 _ HO.out).2.1 HKR.out)
          rw [Hn.out] at c5 hnb ow htk hmem step hled
          have C5 := Lib.hid c5; have OW := Lib.hid ow; have STEP := Lib.hid step; have NB := Lib.hid hnb; have HTK := Lib.hid htk; have HKRD := Lib.hid hkr; have HKIN := Lib.hid hkin
          clear ow step hnb htk hkr hkin hmem h2
          have hlen : Hid (tk.length = s.led.length) := by rw [Hid, HTK.out, Hn.out]
          cases hx : idxT ⟨3, pol, key, num⟩ s.led with
          | none =>
            rw [hx] at IX
            have HX := Lib.hid hx
            clear hx
            unfold idxV at IX
            dsimp only at IX
            go_wp2_with fail
            refine IX.out.mono ?_
            rintro e w5 ⟨rfl, x5⟩
            go_wp2_with fail
            go_ret
            refine ⟨0, B, HRI.out, rfl, ?_⟩
            rw [if_pos rfl]
            unfold repliedS
            dsimp only
            rw [if_pos (by rfl), if_neg (by omega), if_pos (by rfl), HX.out]
            dsimp only
            have := GO1.out _ _ (ConnGo.refl KX.out x5)
            rw [wrote_led] at this
            exact this
          | some i =>
            rw [hx] at IX
            have HX := Lib.hid hx
            have hin : i < n := by rw [← Hn.out]; exact idx_lt hx
            clear hx
            unfold idxV at IX
            dsimp only at IX
            go_wp2_with fail
            refine IX.out.mono ?_
            rintro e w5 ⟨rfl, x5⟩
            have d5 := ext_cell x5 c5
            have g5 := frz_ext2 x5 c5 f5
            have DL := Lib.hid (tk_delete w5 base TA n tc i (toksV tk s.led) toks_one (by omega) hin (own_ext OW.out x5))
            have X5 := Lib.hid x5
            clear x5 c5 f5
            go_wp2_with fail
            refine DL.out.mono ?_
            rintro e w7 ⟨rfl, o7, g7⟩
            have O7 := Lib.hid o7; have G7 := Lib.hid g7
            have q5 := g7.cell d5 NB.out.symm
            have F5 := frz_grown g7 d5 g5 NB.out
            clear o7 g7 d5 g5
            go_wp2_with fail
            go_ret
            refine ⟨0, B, HRI.out, rfl, ?_⟩
            rw [if_pos rfl]
            unfold repliedS
            dsimp only
            rw [if_pos (by rfl), if_neg (by omega), if_pos (by rfl), HX.out]
            dsimp only
            refine GO1.out _ _ ?_
            have hi9 : i < s.led.length := by rw [Hn.out]; exact hin
            have := STEP.out TA (n - 1) tc w7 (s.led.eraseIdx i) (tk.eraseIdx i) (by rw [List.length_eraseIdx_of_lt hi9, Hn.out]) (by rw [List.length_eraseIdx_of_lt hi9, List.length_eraseIdx_of_lt (by rw [hlen.out]; exact hi9), hlen.out]) (by unfold toksV; rw [zipV_erase tokC 3 (fun _ _ => rfl) tk s.led i hlen.out hi9]; exact O7.out) (fun p hp => HKRD.out p (zip_erase_sub tk s.led i hlen.out p hp)) (fun k hk => HKIN.out k (List.mem_of_mem_eraseIdx hk)) (((GB.refl X _).ext X5.out).grown G7.out (fun q e => .inl e)) (fun b e => .inl (by cases TA <;> exact e))
            exact this
        · have n2 : ((op : Int) == 2) = false := by simp; omega
          have n3 : ((op : Int) == 3) = false := by simp; omega
          have N2 := Lib.hid h2; have N3 := Lib.hid h3
          clear h2 h3
          go_wp2_with fail
          go_ret
          refine ⟨0, B, HRI.out, rfl, ?_⟩
          rw [if_pos rfl]
          unfold repliedS
          dsimp only
          rw [if_pos (by rfl), if_neg N2.out, if_neg N3.out]
          exact GO1.out _ _ (ConnGo.refl KX.out (Ext.refl _))
    · have ne : ((e : Int) != 0) = true := by simpa using he0
      have NE := Lib.hid he0
      clear he0
      go_wp2_with fail
      go_ret
      refine ⟨0, B, HRI.out, rfl, ?_⟩
      rw [if_pos rfl]
      unfold repliedS
      rw [if_neg (by have := NE.out; omega)]
      exact GO1.out _ _ (ConnGo.refl KX.out (Ext.refl _))
end
end Go.Proofs.YtloidkmphigbdaaGreat
