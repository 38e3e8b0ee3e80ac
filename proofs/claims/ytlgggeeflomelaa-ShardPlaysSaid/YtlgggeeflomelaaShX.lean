/- spigotref14: the document's shard in memory; New, Pending, DocStart, end. -/
import Derived.Test.YtlgggeeflomelaaShV
import Derived.Test.YtlgggeeflomelaaShU
namespace Go.Proofs.Ytlgggeeflomelaa
open Go.RowKit

def dOp : SCall → Nat
  | .idle => 0
  | .begun op _ _ => op
  | .swap op _ _ _ _ _ => op
def dRead : SCall → Nat
  | .idle => 0
  | .begun _ _ _ => 0
  | .swap _ _ _ v _ _ => v
def Blk258 (w : World) (gk : Nat) : Prop := ∃ cs t, w.heap[gk]? = some (.cells cs t (0, 0)) ∧ cs.size = 258
theorem Blk258.set {w : World} {gk : Nat} (h : Blk258 w gk) (i : Nat) (v : Value) : Blk258 (w.setCell ⟨gk, i, none⟩ v) gk := by
  obtain ⟨cs, t, h1, h2⟩ := h
  exact ⟨_, t, blk_set h1 i v, by simpa using h2⟩
theorem Blk258.same {w : World} {gk : Nat} (h : Blk258 w gk) {i : Nat} (hi : i < 258) (v : Value) : (w.setCell ⟨gk, i, none⟩ v).cell? ⟨gk, i, none⟩ = some v := by
  obtain ⟨cs, t, h1, h2⟩ := h
  rw [blk_cell (blk_set h1 i v)]
  simp [h2, hi]
theorem Blk258.get {w : World} {gk : Nat} (h : Blk258 w gk) {i : Nat} (hi : i < 258) : ∃ v, w.cell? ⟨gk, i, none⟩ = some v := by
  obtain ⟨cs, t, h1, h2⟩ := h
  exact ⟨_, (blk_cell h1 i).trans (Array.getElem?_eq_getElem (by rw [h2]; exact hi))⟩
theorem Blk258.frz {w : World} {gk : Nat} (h : Blk258 w gk) (i : Nat) : w.frozen? ⟨gk, i, none⟩ = false := by
  obtain ⟨cs, t, h1, h2⟩ := h
  exact blk_frozen h1 i
theorem Blk258.gb {w w' : World} {gk : Nat} {S : Nat → Prop} (h : Blk258 w gk) (g : GB w w' S) (hn : ¬ S gk) : Blk258 w' gk := by
  obtain ⟨cs, t, h1, h2⟩ := h
  exact ⟨cs, t, g.blk h1 hn, h2⟩
theorem Blk258.lt {w : World} {gk : Nat} (h : Blk258 w gk) : gk < w.heap.size := by
  obtain ⟨cs, t, h1, h2⟩ := h
  exact blk_lt h1
/-- a call's four cells -/
def DCallAt (w : World) (G : Nat → Prop) (gk d : Nat) (c : SCall) : Prop :=
  w.cell? ⟨gk, 2 + d * 4, none⟩ = some (.int .u8 (dOp c : Int)) ∧ w.cell? ⟨gk, 2 + d * 4 + 3, none⟩ = some (.int .i64 (dRead c : Int)) ∧
  ∀ op key val, c.ask = some (op, key, val) → ∃ K kc, w.cell? ⟨gk, 2 + d * 4 + 1, none⟩ = some (.slice K key.length kc) ∧ w.cell? ⟨gk, 2 + d * 4 + 2, none⟩ = some (.int .i64 val) ∧ key.length ≤ kc ∧ Rd w K (vals .u8 key) ∧ ∀ a, K = some a → G a.block ∧ a.block ≠ gk
/-- the document's shard: gk is its block; G: all that it reads -/
def DocAt (w : World) (G : Nat → Prop) (gk : Nat) (s : SSt) : Prop :=
  Blk258 w gk ∧ w.cell? ⟨gk, 0, none⟩ = some (.int .i64 (s.ver : Int)) ∧
  (∃ A c ks, w.cell? ⟨gk, 1, none⟩ = some (.slice A s.lst.length c) ∧ EntRd w A s.lst ks ∧ (∀ a, A = some a → G a.block ∧ a.block ≠ gk) ∧ ∀ p ∈ ks.zip s.lst, ∀ a, p.1.1 = some a → G a.block ∧ a.block ≠ gk) ∧
  (∀ d, d < 64 → DCallAt w G gk d (s.call d)) ∧ G gk ∧ ∀ i, G i → i < w.heap.size
theorem DCallAt.gb {w w' : World} {G G' S : Nat → Prop} {gk d : Nat} {c : SCall} (h : DCallAt w G gk d c) (g : GB w w' S) (hn : ¬ S gk) (hS : ∀ i, S i → ¬ G i) (hG : ∀ i, G i → G' i) : DCallAt w' G' gk d c := by
  obtain ⟨h1, h2, h3⟩ := h
  refine ⟨g.cell h1 hn, g.cell h2 hn, fun op key val ha => ?_⟩
  obtain ⟨K, kc, k1, k2, k3, k4, k5⟩ := h3 op key val ha
  exact ⟨K, kc, g.cell k1 hn, g.cell k2 hn, k3, g.rd k4 (fun p hp e => hS _ e (k5 p hp).1), fun a ha => ⟨hG _ (k5 a ha).1, (k5 a ha).2⟩⟩
/-- a store into gk that is not in this call's cells -/
theorem DCallAt.set {w : World} {G : Nat → Prop} {gk d i : Nat} {c : SCall} {v : Value} (h : DCallAt w G gk d c) (hi : i < 2 + d * 4 ∨ 2 + d * 4 + 3 < i) : DCallAt (w.setCell ⟨gk, i, none⟩ v) G gk d c := by
  obtain ⟨h1, h2, h3⟩ := h
  refine ⟨cell_off h1 (by omega), cell_off h2 (by omega), fun op key val ha => ?_⟩
  obtain ⟨K, kc, k1, k2, k3, k4, k5⟩ := h3 op key val ha
  exact ⟨K, kc, cell_off k1 (by omega), cell_off k2 (by omega), k3, ((GB.refl w (· = gk)).set gk i v (.inl rfl)).rd k4 (fun p hp e => (k5 p hp).2 e), k5⟩
theorem EntRd.setd {w : World} {G : Nat → Prop} {gk i : Nat} {v : Value} {A : Option Addr} {l : List Ent} {ks : List Kref} (h : EntRd w A l ks) (h1 : ∀ a, A = some a → G a.block ∧ a.block ≠ gk) (h2 : ∀ p ∈ ks.zip l, ∀ a, p.1.1 = some a → G a.block ∧ a.block ≠ gk) : EntRd (w.setCell ⟨gk, i, none⟩ v) A l ks := by
  have g := (GB.refl w (· = gk)).set gk i v (.inl rfl)
  exact EntRd.of h.1 (g.rd h.2.1 (fun p hp e => (h1 p hp).2 e)) (fun p hp => ⟨(h.keys p hp).1, g.rd (h.keys p hp).2 (fun a ha e => (h2 p hp a ha).2 e)⟩)
theorem DocAt.gb {w w' : World} {G S : Nat → Prop} {gk : Nat} {s : SSt} (h : DocAt w G gk s) (g : GB w w' S) (hS : ∀ i, S i → ¬ G i) : DocAt w' G gk s := by
  obtain ⟨h1, h2, ⟨A, c, ks, h3, h4, h5, h6⟩, h7, h8, h9⟩ := h
  have hn : ¬ S gk := fun e => hS _ e h8
  exact ⟨h1.gb g hn, g.cell h2 hn, ⟨A, c, ks, g.cell h3 hn, EntRd.of h4.1 (g.rd h4.2.1 (fun p hp e => hS _ e (h5 p hp).1)) (fun p hp => ⟨(h4.keys p hp).1, g.rd (h4.keys p hp).2 (fun a ha e => hS _ e (h6 p hp a ha).1)⟩), h5, h6⟩, fun d hd => (h7 d hd).gb g hn hS (fun _ e => e), h8, fun i hi => Nat.lt_of_lt_of_le (h9 i hi) g.size⟩
theorem DocAt.ext {w w' : World} {G : Nat → Prop} {gk : Nat} {s : SSt} (h : DocAt w G gk s) (x : Ext w w') : DocAt w' G gk s := h.gb (GB.of_ext (fun _ => False) x) (fun _ e => e.elim)
theorem DocAt.more {w : World} {G G' : Nat → Prop} {gk : Nat} {s : SSt} (h : DocAt w G gk s) (hG : ∀ i, G i → G' i) (hl : ∀ i, G' i → i < w.heap.size) : DocAt w G' gk s := by
  obtain ⟨h1, h2, ⟨A, c, ks, h3, h4, h5, h6⟩, h7, h8, h9⟩ := h
  exact ⟨h1, h2, ⟨A, c, ks, h3, h4, fun a ha => ⟨hG _ (h5 a ha).1, (h5 a ha).2⟩, fun p hp a ha => ⟨hG _ (h6 p hp a ha).1, (h6 p hp a ha).2⟩⟩, fun d hd => (h7 d hd).gb (GB.refl w (fun _ => False)) (fun e => e) (fun _ e => e.elim) hG, hG _ h8, hl⟩
/-- the version -/
theorem DocAt.setVer {w : World} {G : Nat → Prop} {gk : Nat} {s : SSt} (h : DocAt w G gk s) (v : Nat) : DocAt (w.setCell ⟨gk, 0, none⟩ (.int .i64 (v : Int))) G gk { s with ver := v } := by
  obtain ⟨h1, h2, ⟨A, c, ks, h3, h4, h5, h6⟩, h7, h8, h9⟩ := h
  exact ⟨h1.set _ _, h1.same (by omega) _, ⟨A, c, ks, cell_off h3 (by omega), h4.setd h5 h6, h5, h6⟩, fun d hd => (h7 d hd).set (by omega), h8, by simpa using h9⟩
/-- the list -/
theorem DocAt.setLst {w : World} {G : Nat → Prop} {gk : Nat} {s : SSt} (h : DocAt w G gk s) {A : Option Addr} {c : Nat} {l : List Ent} {ks : List Kref} (hE : EntRd w A l ks) (h5 : ∀ a, A = some a → G a.block ∧ a.block ≠ gk) (h6 : ∀ p ∈ ks.zip l, ∀ a, p.1.1 = some a → G a.block ∧ a.block ≠ gk) : DocAt (w.setCell ⟨gk, 1, none⟩ (.slice A l.length c)) G gk { s with lst := l } := by
  obtain ⟨h1, h2, -, h7, h8, h9⟩ := h
  exact ⟨h1.set _ _, cell_off h2 (by omega), ⟨A, c, ks, h1.same (by omega) _, hE.setd h5 h6, h5, h6⟩, fun d hd => (h7 d hd).set (by omega), h8, by simpa using h9⟩
/-- what a call has read -/
theorem DocAt.setRead {w : World} {G : Nat → Prop} {gk who v : Nat} {s : SSt} (h : DocAt w G gk s) (hw : who < 64) {c' : SCall} (ho : dOp c' = dOp (s.call who)) (ha : c'.ask = (s.call who).ask) (hv : dRead c' = v) : DocAt (w.setCell ⟨gk, 2 + who * 4 + 3, none⟩ (.int .i64 (v : Int))) G gk (s.put who c') := by
  obtain ⟨h1, h2, ⟨A, c, ks, h3, h4, h5, h6⟩, h7, h8, h9⟩ := h
  refine ⟨h1.set _ _, cell_off h2 (by omega), ⟨A, c, ks, cell_off h3 (by omega), h4.setd h5 h6, h5, h6⟩, fun d hd => ?_, h8, by simpa using h9⟩
  by_cases e : d = who
  · subst e
    rw [sput_self]
    obtain ⟨k1, k2, k3⟩ := h7 d hd
    refine ⟨by rw [ho]; exact cell_off k1 (by omega), by rw [hv]; exact h1.same (by omega) _, fun op key val hk => ?_⟩
    obtain ⟨K, kc, m1, m2, m3, m4, m5⟩ := k3 op key val (ha ▸ hk)
    exact ⟨K, kc, cell_off m1 (by omega), cell_off m2 (by omega), m3, ((GB.refl w (· = gk)).set gk _ _ (.inl rfl)).rd m4 (fun p hp e => (m5 p hp).2 e), m5⟩
  · rw [sput_other s c' e]
    exact (h7 d hd).set (by omega)
/-- four cells of a call -/
def put4d (w : World) (gk who : Nat) (o : Value) (k : Value) (v : Value) (r : Value) : World := (((w.setCell ⟨gk, 2 + who * 4, none⟩ o).setCell ⟨gk, 2 + who * 4 + 1, none⟩ k).setCell ⟨gk, 2 + who * 4 + 2, none⟩ v).setCell ⟨gk, 2 + who * 4 + 3, none⟩ r
theorem put4d_gb (w : World) (gk who : Nat) (o k v r : Value) : GB w (put4d w gk who o k v r) (· = gk) := ((((GB.refl w (· = gk)).set gk _ _ (.inl rfl)).set gk _ _ (.inl rfl)).set gk _ _ (.inl rfl)).set gk _ _ (.inl rfl)
theorem DocAt.putCall {w : World} {G : Nat → Prop} {gk who : Nat} {s : SSt} (h : DocAt w G gk s) (hw : who < 64) {c' : SCall} {K : Option Addr} {m kc : Nat} {val : Int} (hc : ∀ op key v, c'.ask = some (op, key, v) → key.length = m ∧ v = val ∧ m ≤ kc ∧ Rd w K (vals .u8 key) ∧ ∀ a, K = some a → G a.block ∧ a.block ≠ gk) : DocAt (put4d w gk who (.int .u8 (dOp c' : Int)) (.slice K m kc) (.int .i64 val) (.int .i64 (dRead c' : Int))) G gk (s.put who c') := by
  obtain ⟨h1, h2, ⟨A, c, ks, h3, h4, h5, h6⟩, h7, h8, h9⟩ := h
  have g := put4d_gb w gk who (.int .u8 (dOp c' : Int)) (.slice K m kc) (.int .i64 val) (.int .i64 (dRead c' : Int))
  refine ⟨(((h1.set _ _).set _ _).set _ _).set _ _, cell_off (cell_off (cell_off (cell_off h2 (by omega)) (by omega)) (by omega)) (by omega), ⟨A, c, ks, cell_off (cell_off (cell_off (cell_off h3 (by omega)) (by omega)) (by omega)) (by omega), EntRd.of h4.1 (g.rd h4.2.1 (fun p hp e => (h5 p hp).2 e)) (fun p hp => ⟨(h4.keys p hp).1, g.rd (h4.keys p hp).2 (fun a ha e => (h6 p hp a ha).2 e)⟩), h5, h6⟩, fun d hd => ?_, h8, by simpa [put4d] using h9⟩
  by_cases e : d = who
  · subst e
    rw [sput_self]
    refine ⟨cell_off (cell_off (cell_off (h1.same (by omega) _) (by omega)) (by omega)) (by omega), (((h1.set _ _).set _ _).set _ _).same (by omega) _, fun op key v hk => ?_⟩
    obtain ⟨e1, e2, e3, e4, e5⟩ := hc op key v hk
    subst e1 e2
    exact ⟨K, kc, cell_off (cell_off ((h1.set _ _).same (by omega) _) (by omega)) (by omega), cell_off (((h1.set _ _).set _ _).same (by omega) _) (by omega), e3, g.rd e4 (fun p hp e => (e5 p hp).2 e), e5⟩
  · rw [sput_other s c' e]
    exact ((((h7 d hd).set (by omega)).set (by omega)).set (by omega)).set (by omega)
/-- it went on -/
def DocGo (w : World) (G : Nat → Prop) (gk : Nat) (s : SSt) (w' : World) : Prop := ∃ G', DocAt w' G' gk s ∧ GB w w' (· = gk) ∧ (∀ i, G i → G' i) ∧ ∀ i, G' i → G i ∨ w.heap.size ≤ i
/-- the cells of a document's shard without entries -/
def zeroD : Array Value := (.int .i64 1 :: .slice none 0 0 :: (List.replicate 64 (0 : Nat)).flatMap fun _ => [.int .u8 0, .slice none 0 0, .int .i64 0, .int .i64 0]).toArray
theorem zeroD_get {i : Nat} (hi : i < 64) : zeroD[2 + i * 4]? = some (.int .u8 ((0 : Nat) : Int)) ∧ zeroD[2 + i * 4 + 3]? = some (.int .i64 ((0 : Nat) : Int)) := by
  have hg : ∀ j, j < 4 → zeroD[2 + i * 4 + j]? = ([Value.int .u8 0, .slice none 0 0, .int .i64 0, .int .i64 0] : List Value)[j]? := fun j hj => by
    unfold zeroD
    rw [List.getElem?_toArray, show 2 + i * 4 + j = (i * 4 + j) + 1 + 1 by omega, List.getElem?_cons_succ, List.getElem?_cons_succ]
    have : ∀ (n i : Nat), i < n → ((List.replicate n (0 : Nat)).flatMap fun _ => [Value.int .u8 0, .slice none 0 0, .int .i64 0, .int .i64 0])[i * 4 + j]? = ([Value.int .u8 0, .slice none 0 0, .int .i64 0, .int .i64 0] : List Value)[j]? := fun n => by
      induction n with
      | zero => intro i hi; omega
      | succ n ih =>
        intro i hi
        rw [List.replicate_succ, List.flatMap_cons]
        cases i with
        | zero => rw [Nat.zero_mul, Nat.zero_add, List.getElem?_append_left (by simp; omega)]
        | succ i =>
          rw [List.getElem?_append_right (by simp; omega)]
          rw [show (i + 1) * 4 + j - ([Value.int .u8 0, .slice none 0 0, .int .i64 0, .int .i64 0] : List Value).length = i * 4 + j by simp; omega]
          exact ih i (by omega)
    exact this 64 i hi
  exact ⟨hg 0 (by omega), hg 3 (by omega)⟩
set_option maxHeartbeats 1000000 in
set_option maxRecDepth 100000 in
theorem dnew_any (w : World) : Calls Try.prog 39 #[] w fun e w' => ∃ gk, e = .returned (.pointer (some ⟨gk, 0, none⟩)) ∧ DocAt w' (· = gk) gk sInit ∧ Ext w w' ∧ gk = w.heap.size := by
  go_enter Try.func39, Try.ntmps39
  go_wp2_with fail
  go_ret
  have hb : (w.alloc (.cells zeroD 98)).heap[w.heap.size]? = some (.cells zeroD 98 (0, 0)) := blk_new w _
  refine ⟨w.heap.size, rfl, (?_ : DocAt (w.alloc (.cells zeroD 98)) (· = w.heap.size) w.heap.size sInit), (Ext.refl w).alloc _, rfl⟩
  refine ⟨⟨zeroD, _, hb, by kernel_rfl⟩, blk_cell hb 0, ⟨none, 0, [], blk_cell hb 1, EntRd.nil _, (fun a ha => by cases ha), (fun p hp => by cases hp)⟩, fun d hd => ⟨(blk_cell hb _).trans (zeroD_get hd).1, (blk_cell hb _).trans (zeroD_get hd).2, fun op key val ha => by cases ha⟩, rfl, fun i hi => by subst hi; rw [World.size_alloc]; omega⟩
theorem dcell {w : World} {G : Nat → Prop} {gk who : Nat} {s : SSt} (h : DocAt w G gk s) (hw : who < 64) : w.cell? ⟨gk, 2 + who * 4, none⟩ = some (.int .u8 (dOp (s.call who) : Int)) := by
  obtain ⟨h1, h2, h3, h7, h8, h9⟩ := h
  exact (h7 who hw).1
theorem dop_pos {s : SSt} {who : Nat} (hi : SInv s) (h : s.call who ≠ .idle) : 1 ≤ dOp (s.call who) ∧ dOp (s.call who) ≤ 4 := by
  have := hi.2.2 who
  cases he : s.call who with
  | idle => exact absurd he h
  | begun op key val => rw [he] at this; exact ⟨this.1, this.2.1⟩
  | swap op key val v m n => rw [he] at this; exact ⟨this.1.1, this.1.2.1⟩
set_option maxHeartbeats 1000000 in
theorem dpend_any (w : World) (G : Nat → Prop) (gk who : Nat) (s : SSt) (h : DocAt w G gk s) (hi : SInv s) (hw : who < 64) :
    Calls Try.prog 46 #[.pointer (some ⟨gk, 0, none⟩), .int .i64 (who : Int)] w fun e w' => e = .returned (.bool (!idleS (s.call who))) ∧ w = w' := by
  have c0 := dcell h hw
  have a1 : (0 : Int) ≤ (who : Int) := by omega
  have a2 : (who : Int) < 64 := by omega
  by_cases hs : s.call who = .idle
  · rw [(idleS_iff _).2 hs]
    rw [hs] at c0
    have c1 : w.cell? ⟨gk, 2 + who * 4, none⟩ = some (.int .u8 0) := c0
    clear h hi hs c0
    go_enter Try.func46, Try.ntmps46
    go_wp2_with fail
    go_ret
    exact ⟨rfl, rfl⟩
  · have hp : idleS (s.call who) = false := by
      cases hq : idleS (s.call who) with
      | false => rfl
      | true => exact absurd ((idleS_iff _).1 hq) hs
    obtain ⟨q1, q2⟩ := dop_pos hi hs
    rw [hp]
    obtain ⟨o, ho⟩ : ∃ o, dOp (s.call who) = o := ⟨_, rfl⟩
    rw [ho] at c0 q1
    have ho0 : ((o : Int) != 0) = true := by simpa using (by omega : (o : Int) ≠ 0)
    clear h hi hs hp ho q2
    go_enter Try.func46, Try.ntmps46
    go_wp2_with fail
    go_ret
    exact ⟨rfl, rfl⟩
theorem dpend_bad (w : World) (A : Option Addr) (who : Int) (hb : ¬ (0 ≤ who ∧ who < 64)) :
    Calls Try.prog 46 #[.pointer A, .int .i64 who] w fun e w' => e = .returned (.bool false) ∧ w = w' := by
  cases A with
  | none =>
    clear hb
    go_enter Try.func46, Try.ntmps46
    go_wp2_with fail
    go_ret
    exact ⟨rfl, rfl⟩
  | some a =>
    by_cases h0 : 0 ≤ who
    · have h1 : ¬ who < 64 := by omega
      clear hb
      go_enter Try.func46, Try.ntmps46
      go_wp2_with fail
      go_ret
      exact ⟨rfl, rfl⟩
    · clear hb
      go_enter Try.func46, Try.ntmps46
      go_wp2_with fail
      go_ret
      exact ⟨rfl, rfl⟩
set_option maxHeartbeats 1000000 in
set_option maxRecDepth 100000 in
theorem dstart_busy (w : World) (G : Nat → Prop) (gk who op m d : Nat) (s : SSt) (K : Option Addr) (val : Int) (h : DocAt w G gk s) (hi : SInv s) (hs : s.call who ≠ .idle) (hw : who < 64) (h1 : 1 ≤ op) (h4 : op ≤ 4) (hv : op = 2 ∨ op = 3 → 0 ≤ val ∧ val ≤ 4611686018427387903) (hm : m ≤ 256) :
    Calls Try.prog 41 #[.pointer (some ⟨gk, 0, none⟩), .int .i64 (who : Int), .int .u8 (op : Int), .slice K m d, .int .i64 val] w fun e w' => e = .returned (.int .i64 9) ∧ w = w' := by
  have RA := rright_ok w K who op m d val hw h1 h4 hv
  rw [if_neg (by omega)] at RA
  have RA' := Lib.hid RA
  have c0 := dcell h hw
  obtain ⟨q1, q2⟩ := dop_pos hi hs
  obtain ⟨o, ho⟩ : ∃ o, dOp (s.call who) = o := ⟨_, rfl⟩
  rw [ho] at c0 q1
  have ho0 : ((o : Int) == 0) = false := by simpa using (by omega : (o : Int) ≠ 0)
  have a1 : (0 : Int) ≤ (who : Int) := by omega
  have a2 : (who : Int) < 64 := by omega
  clear h hi hs hv RA ho q2
  go_enter Try.func41, Try.ntmps41
  go_wp2_with fail
  refine RA'.out.mono ?_
  rintro e w1 ⟨rfl, rfl⟩
  go_wp2_with fail
  go_ret
  exact ⟨rfl, rfl⟩
theorem dgo_start {w w2 : World} {G : Nat → Prop} {gk who op m tc : Nat} {s : SSt} {TA : Option Addr} {key : List Nat} {val : Int} (h : DocAt w G gk s) (hw : who < 64) (x : Ext w w2) (hk : key.length = m) (ho : w2.ownsRow w.drew.heap.size 5 1 (.slice TA m tc) m (vals .u8 key)) :
    DocGo w G gk (s.put who (.begun op key val)) (put4d w2 gk who (.int .u8 (op : Int)) (.slice TA m tc) (.int .i64 val) (.int .i64 0)) := by
  have h2 := h.ext x
  have hlt := h.2.2.2.2.2
  have hgk := hlt gk h.2.2.2.2.1
  have hG : ∀ i, (G i ∨ (w.heap.size ≤ i ∧ i < w2.heap.size)) → i < w2.heap.size := fun i hi => hi.elim (fun e => Nat.lt_of_lt_of_le (hlt i e) x.size) (fun e => e.2)
  refine ⟨fun i => G i ∨ (w.heap.size ≤ i ∧ i < w2.heap.size), (h2.more (fun i e => .inl e) hG).putCall (c' := .begun op key val) hw (fun op' key' v' hc => ?_), GB.back x (put4d_gb _ _ _ _ _ _ _), fun i e => .inl e, fun i e => e.imp id (fun e => e.1)⟩
  injection hc with hc
  injection hc with e1 e2
  injection e2 with e2 e3
  subst e1 e2 e3
  refine ⟨hk, rfl, own_cap ho, Rd.of_own ho, fun a ha => ?_⟩
  subst ha
  have := ho.lt a.block rfl
  exact ⟨.inr this, fun e => by have := this.1; rw [e] at this; exact Nat.lt_irrefl _ (Nat.lt_of_lt_of_le hgk this)⟩
set_option maxHeartbeats 4000000 in
set_option maxRecDepth 100000 in
theorem dstart_ok (w : World) (G : Nat → Prop) (gk who op m d : Nat) (s : SSt) (K : Option Addr) (val : Int) (key : List Nat) (h : DocAt w G gk s) (hs : s.call who = .idle) (hw : who < 64) (h1 : 1 ≤ op) (h4 : op ≤ 4) (hv : op = 2 ∨ op = 3 → 0 ≤ val ∧ val ≤ 4611686018427387903) (hm : m ≤ 256) (hkl : key.length = m) (hr : Rd w K (vals .u8 key)) :
    Calls Try.prog 41 #[.pointer (some ⟨gk, 0, none⟩), .int .i64 (who : Int), .int .u8 (op : Int), .slice K m d, .int .i64 val] w fun e w' => e = .returned (.int .i64 0) ∧ DocGo w G gk (s.put who (.begun op key val)) w' := by
  have RA := rright_ok w K who op m d val hw h1 h4 hv
  rw [if_neg (by omega)] at RA
  have RA' := Lib.hid RA
  have c0 := dcell h hw
  rw [hs] at c0
  have c1 : w.cell? ⟨gk, 2 + who * 4, none⟩ = some (.int .u8 0) := c0
  have a1 : (0 : Int) ≤ (who : Int) := by omega
  have a2 : (who : Int) < 64 := by omega
  have TW := Lib.hid (fun u (x : Ext w u) => twin_any K m d key u hkl (by omega) (hr.ext x))
  have H := Lib.hid h; have Hkl := Lib.hid hkl
  clear h hs hv RA c0 hkl hr
  go_enter Try.func41, Try.ntmps41
  go_wp2_with fail
  refine RA'.out.mono ?_
  rintro e w1 ⟨rfl, rfl⟩
  go_upto_region 8 with fail
  go_region_held3 (fun _ => True) (trivial) (((go_at_call 49; (with_reducible refine (TW.out _ (by first | exact Ext.refl w | exact (Ext.refl w).drew)).mono ?_); rintro e w2 ⟨TA, tc, rfl, ho2, x2⟩; rw [Hkl.out] at ho2 ⊢; have HO2 := Lib.hid ho2; have X2 := Lib.hid ((Ext.refl w).drew.trans x2); have D2 := Lib.hid (H.out.ext X2.out); obtain ⟨y0, hy0⟩ := D2.out.1.get (i := 2 + who * 4) (by omega); obtain ⟨y1, hy1⟩ := D2.out.1.get (i := 2 + who * 4 + 1) (by omega); obtain ⟨y2, hy2⟩ := D2.out.1.get (i := 2 + who * 4 + 2) (by omega); obtain ⟨y3, hy3⟩ := D2.out.1.get (i := 2 + who * 4 + 3) (by omega); have z0 := D2.out.1.frz (2 + who * 4); have z1 := D2.out.1.frz (2 + who * 4 + 1); have z2 := D2.out.1.frz (2 + who * 4 + 2); have z3 := D2.out.1.frz (2 + who * 4 + 3); clear ho2 x2)))
  all_goals
    go_wp2_with fail
    go_ret
    exact ⟨rfl, dgo_start H.out hw X2.out Hkl.out HO2.out⟩

theorem dgo_res {w W w5 : World} {G : Nat → Prop} {gk : Nat} {s s0 : SSt} (h : DocAt w G gk s0) (xW : Ext w W) (hrb : w.heap.size < W.heap.size) (g : DocGo W G gk s w5) (a b c : Value) : DocGo w G gk s (((w5.setCell ⟨w.heap.size, 0, none⟩ a).setCell ⟨w.heap.size, 1, none⟩ b).setCell ⟨w.heap.size, 2, none⟩ c) := by
  obtain ⟨G', h1, h2, h3, h4⟩ := g
  have hlt := h.2.2.2.2.2
  have gs : GB w5 (((w5.setCell ⟨w.heap.size, 0, none⟩ a).setCell ⟨w.heap.size, 1, none⟩ b).setCell ⟨w.heap.size, 2, none⟩ c) (· = w.heap.size) := (((GB.refl w5 (· = w.heap.size)).set _ _ _ (.inl rfl)).set _ _ _ (.inl rfl)).set _ _ _ (.inl rfl)
  have hn : ∀ i, i = w.heap.size → ¬ G' i := fun i e hi => by
    subst e
    rcases h4 _ hi with hi | hi
    · exact Nat.lt_irrefl _ (hlt _ hi)
    · omega
  exact ⟨G', h1.gb gs hn, (GB.back xW h2).trans gs (fun i e => .inr (by omega)), h3, fun i hi => (h4 i hi).imp id (Nat.le_trans xW.size)⟩
set_option maxHeartbeats 1000000 in
set_option maxRecDepth 100000 in
theorem dend_any (w : World) (G : Nat → Prop) (gk who : Nat) (s : SSt) (er nu : Int) (h : DocAt w G gk s) (hw : who < 64) :
    Calls Try.prog 72 #[.pointer (some ⟨gk, 0, none⟩), .int .i64 (who : Int), .int .i64 er, .int .i64 nu] w fun e w' => e = .returned (.tuple #[.agg #[.bool true, .int .i64 er, .int .i64 nu], .int .i64 0]) ∧ DocGo w G gk (s.put who .idle) w' := by
  have a3 : (0 : Int) ≤ (who : Int) := by omega
  have a4 : (who : Int) < 64 := by omega
  obtain ⟨W, hW⟩ : ∃ W, w.alloc (.cells #[.bool false, .int .i64 0, .int .i64 0] 86) = W := ⟨_, rfl⟩
  have xW : Ext w W := by rw [← hW]; exact (Ext.refl w).alloc _
  have KZ := Lib.hid (show W.heap[w.heap.size]? = some (.cells #[.bool false, .int .i64 0, .int .i64 0] 86 (0, 0)) by rw [← hW]; exact blk_new w _)
  have D := Lib.hid (h.ext xW); have H := Lib.hid h; have XW := Lib.hid xW
  obtain ⟨y0, hy0⟩ := D.out.1.get (i := 2 + who * 4) (by omega); obtain ⟨y1, hy1⟩ := D.out.1.get (i := 2 + who * 4 + 1) (by omega); obtain ⟨y2, hy2⟩ := D.out.1.get (i := 2 + who * 4 + 2) (by omega); obtain ⟨y3, hy3⟩ := D.out.1.get (i := 2 + who * 4 + 3) (by omega)
  have z0 := D.out.1.frz (2 + who * 4); have z1 := D.out.1.frz (2 + who * 4 + 1); have z2 := D.out.1.frz (2 + who * 4 + 2); have z3 := D.out.1.frz (2 + who * 4 + 3)
  have hgk := h.2.2.2.2.2 gk h.2.2.2.2.1
  clear h xW
  go_enter Try.func72, Try.ntmps72
  go_upto_region 1 with fail
  (try rw [hW])
  clear hW
  go_upto_region 2 with fail
  obtain ⟨V, hV⟩ : ∃ V, ((((W.setCell ⟨gk, 2 + who * 4, none⟩ (.int .u8 0)).setCell ⟨gk, 2 + who * 4 + 1, none⟩ (.slice none 0 0)).setCell ⟨gk, 2 + who * 4 + 2, none⟩ (.int .i64 0)).setCell ⟨gk, 2 + who * 4 + 3, none⟩ (.int .i64 0)) = V := ⟨_, rfl⟩
  have DG := Lib.hid (show DocGo W G gk (s.put who .idle) V from ⟨G, by rw [← hV]; exact D.out.putCall (c' := .idle) hw (fun _ _ _ hc => by cases hc), by rw [← hV]; exact put4d_gb W gk who _ _ _ _, fun _ e => e, fun _ e => .inl e⟩)
  rw [hV]
  clear hV
  have KZV := Lib.hid (show V.heap[w.heap.size]? = some (.cells #[.bool false, .int .i64 0, .int .i64 0] 86 (0, 0)) by obtain ⟨G', _, g, _⟩ := DG.out; exact g.blk KZ.out (by omega))
  have t0 := blk_cell KZV.out 0; have t1 := blk_cell KZV.out 1; have t2 := blk_cell KZV.out 2
  have f0 := blk_frozen KZV.out 0; have f1 := blk_frozen KZV.out 1; have f2 := blk_frozen KZV.out 2
  go_wp2_with fail
  refine bodyPost_ret (results_row_tmp (p := 8) (u := 9) rfl _ _ w.heap.size _ #[.bool true, .int .i64 er, .int .i64 nu] (0, 0) _ rfl (row3 KZV.out _ _ _) Try.underlying86 (by rfl) (by kernel_rfl)) rfl ?_
  exact ⟨rfl, dgo_res H.out XW.out (blk_lt KZ.out) DG.out _ _ _⟩
def DStepR (w : World) (G : Nat → Prop) (gk : Nat) (p : SSt × SRes) (e : Ending) (w' : World) : Prop := e = .returned (.tuple #[.agg #[.bool p.2.done, .int .i64 (p.2.err : Int), .int .i64 p.2.num], .int .i64 0]) ∧ DocGo w G gk p.1 w'
theorem DocGo.drew {w w1 : World} {G : Nat → Prop} {gk : Nat} {s : SSt} (h : DocGo w G gk s w1) : DocGo w G gk s w1.drew := by
  obtain ⟨G', h1, h2, h3, h4⟩ := h
  exact ⟨G', h1.ext (Ext.refl w1).drew, h2.drew, h3, h4⟩
theorem DocGo.onto {w X w1 : World} {G G2 : Nat → Prop} {gk : Nat} {s : SSt} (g : GB w X (· = gk)) (h1 : ∀ i, G i → G2 i) (h2 : ∀ i, G2 i → G i ∨ w.heap.size ≤ i) (h : DocGo X G2 gk s w1) : DocGo w G gk s w1 := by
  obtain ⟨G', k1, k2, k3, k4⟩ := h
  exact ⟨G', k1, g.trans k2 (fun i e => .inl e), fun i hi => k3 i (h1 i hi), fun i hi => (k4 i hi).elim (h2 i) (fun e => .inr (Nat.le_trans g.size e))⟩
theorem DocGo.backx {w0 w w1 : World} {G : Nat → Prop} {gk : Nat} {s : SSt} (x : Ext w0 w) (h : DocGo w G gk s w1) : DocGo w0 G gk s w1 := by
  obtain ⟨G', h1, h2, h3, h4⟩ := h
  exact ⟨G', h1, GB.back x h2, h3, fun i hi => (h4 i hi).imp id (Nat.le_trans x.size)⟩
set_option maxHeartbeats 4000000 in
set_option maxRecDepth 100000 in
theorem dstep_b1h (w : World) (G : Nat → Prop) (gk who : Nat) (key : List Nat) (val : Int) (s : SSt) (h : DocAt w G gk s) (hi : SInv s) (hw : who < 64) (he : s.call who = .begun 1 key val) (hh : hasE s.lst key = true) :
    Calls Try.prog 43 #[.pointer (some ⟨gk, 0, none⟩), .int .i64 (who : Int)] w (DStepR w G gk (s.put who .idle, ⟨true, 0, getE s.lst key⟩)) := by
  have a1 : ¬ (who : Int) < 0 := by omega
  have a2 : ¬ (63 : Int) < (who : Int) := by omega
  have a3 : (0 : Int) ≤ (who : Int) := by omega
  have a4 : (who : Int) < 64 := by omega
  obtain ⟨W, hW⟩ : ∃ W, w.alloc (.cells #[.bool false, .int .i64 0, .int .i64 0] 86) = W := ⟨_, rfl⟩
  have xW : Ext w W := by rw [← hW]; exact (Ext.refl w).alloc _
  have KZ := Lib.hid (show W.heap[w.heap.size]? = some (.cells #[.bool false, .int .i64 0, .int .i64 0] 86 (0, 0)) by rw [← hW]; exact blk_new w _)
  have DW := Lib.hid (h.ext xW); have H := Lib.hid h; have XW := Lib.hid xW; have HI := Lib.hid hi
  have hask : AskOk 1 key val := by have := hi.2.2 who; rw [he] at this; exact this
  have hgk : gk < w.heap.size := h.2.2.2.2.2 gk h.2.2.2.2.1
  obtain ⟨d1, d2, ⟨LA, lc, lks, d3, d4, d5, d6⟩, d7, d8, d9⟩ := DW.out
  obtain ⟨k1, k2, k3⟩ := d7 who hw
  obtain ⟨K, kc, k4, k5, k6, k7, k8⟩ := k3 1 key val (by rw [he]; rfl)
  rw [he] at k1 k2
  have c0 : W.cell? ⟨gk, 2 + who * 4, none⟩ = some (.int .u8 1) := k1
  have c3 : W.cell? ⟨gk, 2 + who * 4 + 3, none⟩ = some (.int .i64 0) := k2
  obtain ⟨n, Hn⟩ : ∃ n, Hid (s.lst.length = n) := ⟨_, rfl⟩
  obtain ⟨m, Hm⟩ : ∃ m, Hid (key.length = m) := ⟨_, rfl⟩
  have hn : n ≤ 4096 := by rw [← Hn.out]; exact hi.1.2.2
  have hm : m ≤ 256 := by rw [← Hm.out]; exact hask.2.2.1
  rw [Hn.out] at d3
  rw [Hm.out] at k4 k6
  have FD := Lib.hid (fun u (x : Ext W u) => rfind_any u LA K n lc m kc s.lst lks key Hn.out hi.1 (d4.ext x) Hm.out (by omega) hask.2.2.2.1 (k7.ext x))
  have hlt := has_lt hh
  obtain ⟨gv, hv9, hg⟩ := has_get hh
  rw [Hn.out] at hlt
  obtain ⟨b, off, K1, kc1, hA1, -, -, g1, -, -⟩ := d4.at_ hv9
  rw [show findI s.lst key = (atE s.lst key : Int) from if_pos hh] at FD
  obtain ⟨a, Ha⟩ : ∃ a, Hid (atE s.lst key = a) := ⟨_, rfl⟩
  rw [Ha.out] at FD hlt g1
  subst hA1
  dsimp only at g1
  have hlt' : (a : Int) < (n : Int) := by omega
  have ha0 : (0 : Int) ≤ (a : Int) := by omega
  have ha1 : ¬ (a : Int) < 0 := by omega
  have HG := Lib.hid hg; have HH := Lib.hid hh
  clear hv9 hg hh
  have HE := Lib.hid he; have HASK := Lib.hid hask; have LE := Lib.hid d4; have L5 := Lib.hid d5; have L6 := Lib.hid d6; have K7 := Lib.hid k7; have K8 := Lib.hid k8
  clear h xW hi he hask d1 d4 d5 d6 d7 d8 d9 k1 k2 k3 k7 k8
  go_enter Try.func43, Try.ntmps43
  go_upto_region 1 with fail
  (try rw [hW])
  clear hW
  go_upto_region 6 with fail
  go_region_held3 (fun u => u.cell? ⟨gk, 1, none⟩ = some (.slice (some ⟨b, off, none⟩) n lc) ∧ u.cell? ⟨gk, 2 + who * 4 + 1, none⟩ = some (.slice K m kc))
    (((try dsimp only); refine ⟨?_, ?_⟩ <;> first | (with_reducible exact drew_cell d3) | (with_reducible exact drew_cell k4) | (with_reducible assumption)))
    ((go_at_call 71; (with_reducible refine (FD.out _ (by first | exact Ext.refl W | exact (Ext.refl W).drew)).mono ?_); rintro e V ⟨rfl, xV⟩; have XV := Lib.hid ((Ext.refl W).drew.trans xV); have e0 := ext_cell XV.out c0; have e1 := ext_cell XV.out k4; have e2 := ext_cell XV.out k5; have e3 := ext_cell XV.out c3; have e4 := ext_cell XV.out d2; have e5 := ext_cell XV.out d3; have KZV := Lib.hid (blk_ext KZ.out XV.out); have DV := Lib.hid (DW.out.ext XV.out); clear xV))
  all_goals
    have g1V := ext_cell XV.out g1
    go_wp2_with fail
    refine (dend_any V G gk who s 0 gv DV.out hw).mono ?_
    rintro e w5 ⟨rfl, hg5⟩
    have HG5 := Lib.hid hg5
    have KZ5 := Lib.hid (show w5.heap[w.heap.size]? = _ from by obtain ⟨G', _, g, _⟩ := hg5; exact g.blk KZV.out (by omega))
    clear hg5
    have t0 := blk_cell KZ5.out 0; have t1 := blk_cell KZ5.out 1; have t2 := blk_cell KZ5.out 2; have f0 := blk_frozen KZ5.out 0; have f1 := blk_frozen KZ5.out 1; have f2 := blk_frozen KZ5.out 2
    go_wp2_with fail
    refine bodyPost_ret (results_row_tmp (p := 4) (u := 5) rfl _ _ w.heap.size _ #[.bool true, .int .i64 0, .int .i64 gv] (0, 0) _ rfl (row3 KZ5.out _ _ _) Try.underlying86 (by rfl) (by kernel_rfl)) rfl ?_
    exact ⟨by rw [HG.out]; rfl, dgo_res H.out XW.out (blk_lt KZ.out) (DocGo.backx XV.out HG5.out) _ _ _⟩
set_option maxHeartbeats 4000000 in
set_option maxRecDepth 100000 in
theorem dstep_b1n (w : World) (G : Nat → Prop) (gk who : Nat) (key : List Nat) (val : Int) (s : SSt) (h : DocAt w G gk s) (hi : SInv s) (hw : who < 64) (he : s.call who = .begun 1 key val) (hh : hasE s.lst key = false) :
    Calls Try.prog 43 #[.pointer (some ⟨gk, 0, none⟩), .int .i64 (who : Int)] w (DStepR w G gk (s.put who .idle, ⟨true, 7, 0⟩)) := by
  have a1 : ¬ (who : Int) < 0 := by omega
  have a2 : ¬ (63 : Int) < (who : Int) := by omega
  have a3 : (0 : Int) ≤ (who : Int) := by omega
  have a4 : (who : Int) < 64 := by omega
  obtain ⟨W, hW⟩ : ∃ W, w.alloc (.cells #[.bool false, .int .i64 0, .int .i64 0] 86) = W := ⟨_, rfl⟩
  have xW : Ext w W := by rw [← hW]; exact (Ext.refl w).alloc _
  have KZ := Lib.hid (show W.heap[w.heap.size]? = some (.cells #[.bool false, .int .i64 0, .int .i64 0] 86 (0, 0)) by rw [← hW]; exact blk_new w _)
  have DW := Lib.hid (h.ext xW); have H := Lib.hid h; have XW := Lib.hid xW; have HI := Lib.hid hi
  have hask : AskOk 1 key val := by have := hi.2.2 who; rw [he] at this; exact this
  have hgk : gk < w.heap.size := h.2.2.2.2.2 gk h.2.2.2.2.1
  obtain ⟨d1, d2, ⟨LA, lc, lks, d3, d4, d5, d6⟩, d7, d8, d9⟩ := DW.out
  obtain ⟨k1, k2, k3⟩ := d7 who hw
  obtain ⟨K, kc, k4, k5, k6, k7, k8⟩ := k3 1 key val (by rw [he]; rfl)
  rw [he] at k1 k2
  have c0 : W.cell? ⟨gk, 2 + who * 4, none⟩ = some (.int .u8 1) := k1
  have c3 : W.cell? ⟨gk, 2 + who * 4 + 3, none⟩ = some (.int .i64 0) := k2
  obtain ⟨n, Hn⟩ : ∃ n, Hid (s.lst.length = n) := ⟨_, rfl⟩
  obtain ⟨m, Hm⟩ : ∃ m, Hid (key.length = m) := ⟨_, rfl⟩
  have hn : n ≤ 4096 := by rw [← Hn.out]; exact hi.1.2.2
  have hm : m ≤ 256 := by rw [← Hm.out]; exact hask.2.2.1
  rw [Hn.out] at d3
  rw [Hm.out] at k4 k6
  have FD := Lib.hid (fun u (x : Ext W u) => rfind_any u LA K n lc m kc s.lst lks key Hn.out hi.1 (d4.ext x) Hm.out (by omega) hask.2.2.2.1 (k7.ext x))
  rw [show findI s.lst key = -1 from if_neg (by rw [hh]; exact Bool.false_ne_true)] at FD
  have HH := Lib.hid hh
  clear hh
  have HE := Lib.hid he; have HASK := Lib.hid hask; have LE := Lib.hid d4; have L5 := Lib.hid d5; have L6 := Lib.hid d6; have K7 := Lib.hid k7; have K8 := Lib.hid k8
  clear h xW hi he hask d1 d4 d5 d6 d7 d8 d9 k1 k2 k3 k7 k8
  go_enter Try.func43, Try.ntmps43
  go_upto_region 1 with fail
  (try rw [hW])
  clear hW
  go_upto_region 6 with fail
  go_region_held3 (fun u => u.cell? ⟨gk, 1, none⟩ = some (.slice LA n lc) ∧ u.cell? ⟨gk, 2 + who * 4 + 1, none⟩ = some (.slice K m kc))
    (((try dsimp only); refine ⟨?_, ?_⟩ <;> first | (with_reducible exact drew_cell d3) | (with_reducible exact drew_cell k4) | (with_reducible assumption)))
    ((go_at_call 71; (with_reducible refine (FD.out _ (by first | exact Ext.refl W | exact (Ext.refl W).drew)).mono ?_); rintro e V ⟨rfl, xV⟩; have XV := Lib.hid ((Ext.refl W).drew.trans xV); have e0 := ext_cell XV.out c0; have e1 := ext_cell XV.out k4; have e2 := ext_cell XV.out k5; have e3 := ext_cell XV.out c3; have e4 := ext_cell XV.out d2; have e5 := ext_cell XV.out d3; have KZV := Lib.hid (blk_ext KZ.out XV.out); have DV := Lib.hid (DW.out.ext XV.out); clear xV))
  all_goals
    go_wp2_with fail
    refine (dend_any V G gk who s 7 0 DV.out hw).mono ?_
    rintro e w5 ⟨rfl, hg5⟩
    have HG5 := Lib.hid hg5
    have KZ5 := Lib.hid (show w5.heap[w.heap.size]? = _ from by obtain ⟨G', _, g, _⟩ := hg5; exact g.blk KZV.out (by omega))
    clear hg5
    have t0 := blk_cell KZ5.out 0; have t1 := blk_cell KZ5.out 1; have t2 := blk_cell KZ5.out 2; have f0 := blk_frozen KZ5.out 0; have f1 := blk_frozen KZ5.out 1; have f2 := blk_frozen KZ5.out 2
    go_wp2_with fail
    refine bodyPost_ret (results_row_tmp (p := 4) (u := 5) rfl _ _ w.heap.size _ #[.bool true, .int .i64 7, .int .i64 0] (0, 0) _ rfl (row3 KZ5.out _ _ _) Try.underlying86 (by rfl) (by kernel_rfl)) rfl ?_
    exact ⟨rfl, dgo_res H.out XW.out (blk_lt KZ.out) (DocGo.backx XV.out HG5.out) _ _ _⟩
set_option maxHeartbeats 4000000 in
set_option maxRecDepth 100000 in
theorem dstep_b4n (w : World) (G : Nat → Prop) (gk who : Nat) (key : List Nat) (val : Int) (s : SSt) (h : DocAt w G gk s) (hi : SInv s) (hw : who < 64) (he : s.call who = .begun 4 key val) (hh : hasE s.lst key = false) :
    Calls Try.prog 43 #[.pointer (some ⟨gk, 0, none⟩), .int .i64 (who : Int)] w (DStepR w G gk (s.put who .idle, ⟨true, 7, 0⟩)) := by
  have a1 : ¬ (who : Int) < 0 := by omega
  have a2 : ¬ (63 : Int) < (who : Int) := by omega
  have a3 : (0 : Int) ≤ (who : Int) := by omega
  have a4 : (who : Int) < 64 := by omega
  obtain ⟨W, hW⟩ : ∃ W, w.alloc (.cells #[.bool false, .int .i64 0, .int .i64 0] 86) = W := ⟨_, rfl⟩
  have xW : Ext w W := by rw [← hW]; exact (Ext.refl w).alloc _
  have KZ := Lib.hid (show W.heap[w.heap.size]? = some (.cells #[.bool false, .int .i64 0, .int .i64 0] 86 (0, 0)) by rw [← hW]; exact blk_new w _)
  have DW := Lib.hid (h.ext xW); have H := Lib.hid h; have XW := Lib.hid xW; have HI := Lib.hid hi
  have hask : AskOk 4 key val := by have := hi.2.2 who; rw [he] at this; exact this
  have hgk : gk < w.heap.size := h.2.2.2.2.2 gk h.2.2.2.2.1
  obtain ⟨d1, d2, ⟨LA, lc, lks, d3, d4, d5, d6⟩, d7, d8, d9⟩ := DW.out
  obtain ⟨k1, k2, k3⟩ := d7 who hw
  obtain ⟨K, kc, k4, k5, k6, k7, k8⟩ := k3 4 key val (by rw [he]; rfl)
  rw [he] at k1 k2
  have c0 : W.cell? ⟨gk, 2 + who * 4, none⟩ = some (.int .u8 4) := k1
  have c3 : W.cell? ⟨gk, 2 + who * 4 + 3, none⟩ = some (.int .i64 0) := k2
  obtain ⟨n, Hn⟩ : ∃ n, Hid (s.lst.length = n) := ⟨_, rfl⟩
  obtain ⟨m, Hm⟩ : ∃ m, Hid (key.length = m) := ⟨_, rfl⟩
  have hn : n ≤ 4096 := by rw [← Hn.out]; exact hi.1.2.2
  have hm : m ≤ 256 := by rw [← Hm.out]; exact hask.2.2.1
  rw [Hn.out] at d3
  rw [Hm.out] at k4 k6
  have FD := Lib.hid (fun u (x : Ext W u) => rfind_any u LA K n lc m kc s.lst lks key Hn.out hi.1 (d4.ext x) Hm.out (by omega) hask.2.2.2.1 (k7.ext x))
  rw [show findI s.lst key = -1 from if_neg (by rw [hh]; exact Bool.false_ne_true)] at FD
  have HH := Lib.hid hh
  clear hh
  have HE := Lib.hid he; have HASK := Lib.hid hask; have LE := Lib.hid d4; have L5 := Lib.hid d5; have L6 := Lib.hid d6; have K7 := Lib.hid k7; have K8 := Lib.hid k8
  clear h xW hi he hask d1 d4 d5 d6 d7 d8 d9 k1 k2 k3 k7 k8
  go_enter Try.func43, Try.ntmps43
  go_upto_region 1 with fail
  (try rw [hW])
  clear hW
  go_upto_region 6 with fail
  go_region_held3 (fun u => u.cell? ⟨gk, 1, none⟩ = some (.slice LA n lc) ∧ u.cell? ⟨gk, 2 + who * 4 + 1, none⟩ = some (.slice K m kc))
    (((try dsimp only); refine ⟨?_, ?_⟩ <;> first | (with_reducible exact drew_cell d3) | (with_reducible exact drew_cell k4) | (with_reducible assumption)))
    ((go_at_call 71; (with_reducible refine (FD.out _ (by first | exact Ext.refl W | exact (Ext.refl W).drew)).mono ?_); rintro e V ⟨rfl, xV⟩; have XV := Lib.hid ((Ext.refl W).drew.trans xV); have e0 := ext_cell XV.out c0; have e1 := ext_cell XV.out k4; have e2 := ext_cell XV.out k5; have e3 := ext_cell XV.out c3; have e4 := ext_cell XV.out d2; have e5 := ext_cell XV.out d3; have KZV := Lib.hid (blk_ext KZ.out XV.out); have DV := Lib.hid (DW.out.ext XV.out); clear xV))
  all_goals
    go_wp2_with fail
    refine (dend_any V G gk who s 7 0 DV.out hw).mono ?_
    rintro e w5 ⟨rfl, hg5⟩
    have HG5 := Lib.hid hg5
    have KZ5 := Lib.hid (show w5.heap[w.heap.size]? = _ from by obtain ⟨G', _, g, _⟩ := hg5; exact g.blk KZV.out (by omega))
    clear hg5
    have t0 := blk_cell KZ5.out 0; have t1 := blk_cell KZ5.out 1; have t2 := blk_cell KZ5.out 2; have f0 := blk_frozen KZ5.out 0; have f1 := blk_frozen KZ5.out 1; have f2 := blk_frozen KZ5.out 2
    go_wp2_with fail
    refine bodyPost_ret (results_row_tmp (p := 4) (u := 5) rfl _ _ w.heap.size _ #[.bool true, .int .i64 7, .int .i64 0] (0, 0) _ rfl (row3 KZ5.out _ _ _) Try.underlying86 (by rfl) (by kernel_rfl)) rfl ?_
    exact ⟨rfl, dgo_res H.out XW.out (blk_lt KZ.out) (DocGo.backx XV.out HG5.out) _ _ _⟩
set_option maxHeartbeats 4000000 in
set_option maxRecDepth 100000 in
theorem dstep_b2f (w : World) (G : Nat → Prop) (gk who : Nat) (key : List Nat) (val : Int) (s : SSt) (h : DocAt w G gk s) (hi : SInv s) (hw : who < 64) (he : s.call who = .begun 2 key val) (hh : hasE s.lst key = false) (hfull : s.lst.length = 4096) :
    Calls Try.prog 43 #[.pointer (some ⟨gk, 0, none⟩), .int .i64 (who : Int)] w (DStepR w G gk (s.put who .idle, ⟨true, 10, 0⟩)) := by
  have a1 : ¬ (who : Int) < 0 := by omega
  have a2 : ¬ (63 : Int) < (who : Int) := by omega
  have a3 : (0 : Int) ≤ (who : Int) := by omega
  have a4 : (who : Int) < 64 := by omega
  obtain ⟨W, hW⟩ : ∃ W, w.alloc (.cells #[.bool false, .int .i64 0, .int .i64 0] 86) = W := ⟨_, rfl⟩
  have xW : Ext w W := by rw [← hW]; exact (Ext.refl w).alloc _
  have KZ := Lib.hid (show W.heap[w.heap.size]? = some (.cells #[.bool false, .int .i64 0, .int .i64 0] 86 (0, 0)) by rw [← hW]; exact blk_new w _)
  have DW := Lib.hid (h.ext xW); have H := Lib.hid h; have XW := Lib.hid xW; have HI := Lib.hid hi
  have hask : AskOk 2 key val := by have := hi.2.2 who; rw [he] at this; exact this
  have hgk : gk < w.heap.size := h.2.2.2.2.2 gk h.2.2.2.2.1
  obtain ⟨d1, d2, ⟨LA, lc, lks, d3, d4, d5, d6⟩, d7, d8, d9⟩ := DW.out
  obtain ⟨k1, k2, k3⟩ := d7 who hw
  obtain ⟨K, kc, k4, k5, k6, k7, k8⟩ := k3 2 key val (by rw [he]; rfl)
  rw [he] at k1 k2
  have c0 : W.cell? ⟨gk, 2 + who * 4, none⟩ = some (.int .u8 2) := k1
  have c3 : W.cell? ⟨gk, 2 + who * 4 + 3, none⟩ = some (.int .i64 0) := k2
  obtain ⟨n, Hn⟩ : ∃ n, Hid (s.lst.length = n) := ⟨_, rfl⟩
  obtain ⟨m, Hm⟩ : ∃ m, Hid (key.length = m) := ⟨_, rfl⟩
  have hn : n ≤ 4096 := by rw [← Hn.out]; exact hi.1.2.2
  have hm : m ≤ 256 := by rw [← Hm.out]; exact hask.2.2.1
  rw [Hn.out] at d3
  rw [Hm.out] at k4 k6
  have FD := Lib.hid (fun u (x : Ext W u) => rfind_any u LA K n lc m kc s.lst lks key Hn.out hi.1 (d4.ext x) Hm.out (by omega) hask.2.2.2.1 (k7.ext x))
  rw [show findI s.lst key = -1 from if_neg (by rw [hh]; exact Bool.false_ne_true)] at FD
  have HH := Lib.hid hh
  clear hh
  have HE := Lib.hid he; have HASK := Lib.hid hask; have LE := Lib.hid d4; have L5 := Lib.hid d5; have L6 := Lib.hid d6; have K7 := Lib.hid k7; have K8 := Lib.hid k8
  clear h xW hi he hask d1 d4 d5 d6 d7 d8 d9 k1 k2 k3 k7 k8
  go_enter Try.func43, Try.ntmps43
  go_upto_region 1 with fail
  (try rw [hW])
  clear hW
  go_upto_region 6 with fail
  go_region_held3 (fun u => u.cell? ⟨gk, 1, none⟩ = some (.slice LA n lc) ∧ u.cell? ⟨gk, 2 + who * 4 + 1, none⟩ = some (.slice K m kc))
    (((try dsimp only); refine ⟨?_, ?_⟩ <;> first | (with_reducible exact drew_cell d3) | (with_reducible exact drew_cell k4) | (with_reducible assumption)))
    ((go_at_call 71; (with_reducible refine (FD.out _ (by first | exact Ext.refl W | exact (Ext.refl W).drew)).mono ?_); rintro e V ⟨rfl, xV⟩; have XV := Lib.hid ((Ext.refl W).drew.trans xV); have e0 := ext_cell XV.out c0; have e1 := ext_cell XV.out k4; have e2 := ext_cell XV.out k5; have e3 := ext_cell XV.out c3; have e4 := ext_cell XV.out d2; have e5 := ext_cell XV.out d3; have KZV := Lib.hid (blk_ext KZ.out XV.out); have DV := Lib.hid (DW.out.ext XV.out); clear xV))
  all_goals
    have hn9 : n = 4096 := by rw [← Hn.out]; exact hfull
    have hn8 : (4096 : Int) ≤ (n : Int) := by omega
    go_wp2_with fail
    refine (dend_any V G gk who s 10 0 DV.out hw).mono ?_
    rintro e w5 ⟨rfl, hg5⟩
    have HG5 := Lib.hid hg5
    have KZ5 := Lib.hid (show w5.heap[w.heap.size]? = _ from by obtain ⟨G', _, g, _⟩ := hg5; exact g.blk KZV.out (by omega))
    clear hg5
    have t0 := blk_cell KZ5.out 0; have t1 := blk_cell KZ5.out 1; have t2 := blk_cell KZ5.out 2; have f0 := blk_frozen KZ5.out 0; have f1 := blk_frozen KZ5.out 1; have f2 := blk_frozen KZ5.out 2
    go_wp2_with fail
    refine bodyPost_ret (results_row_tmp (p := 4) (u := 5) rfl _ _ w.heap.size _ #[.bool true, .int .i64 10, .int .i64 0] (0, 0) _ rfl (row3 KZ5.out _ _ _) Try.underlying86 (by rfl) (by kernel_rfl)) rfl ?_
    exact ⟨rfl, dgo_res H.out XW.out (blk_lt KZ.out) (DocGo.backx XV.out HG5.out) _ _ _⟩
set_option maxHeartbeats 4000000 in
set_option maxRecDepth 100000 in
theorem dstep_b3f (w : World) (G : Nat → Prop) (gk who : Nat) (key : List Nat) (val : Int) (s : SSt) (h : DocAt w G gk s) (hi : SInv s) (hw : who < 64) (he : s.call who = .begun 3 key val) (hh : hasE s.lst key = false) (hfull : s.lst.length = 4096) :
    Calls Try.prog 43 #[.pointer (some ⟨gk, 0, none⟩), .int .i64 (who : Int)] w (DStepR w G gk (s.put who .idle, ⟨true, 10, 0⟩)) := by
  have a1 : ¬ (who : Int) < 0 := by omega
  have a2 : ¬ (63 : Int) < (who : Int) := by omega
  have a3 : (0 : Int) ≤ (who : Int) := by omega
  have a4 : (who : Int) < 64 := by omega
  obtain ⟨W, hW⟩ : ∃ W, w.alloc (.cells #[.bool false, .int .i64 0, .int .i64 0] 86) = W := ⟨_, rfl⟩
  have xW : Ext w W := by rw [← hW]; exact (Ext.refl w).alloc _
  have KZ := Lib.hid (show W.heap[w.heap.size]? = some (.cells #[.bool false, .int .i64 0, .int .i64 0] 86 (0, 0)) by rw [← hW]; exact blk_new w _)
  have DW := Lib.hid (h.ext xW); have H := Lib.hid h; have XW := Lib.hid xW; have HI := Lib.hid hi
  have hask : AskOk 3 key val := by have := hi.2.2 who; rw [he] at this; exact this
  have hgk : gk < w.heap.size := h.2.2.2.2.2 gk h.2.2.2.2.1
  obtain ⟨d1, d2, ⟨LA, lc, lks, d3, d4, d5, d6⟩, d7, d8, d9⟩ := DW.out
  obtain ⟨k1, k2, k3⟩ := d7 who hw
  obtain ⟨K, kc, k4, k5, k6, k7, k8⟩ := k3 3 key val (by rw [he]; rfl)
  rw [he] at k1 k2
  have c0 : W.cell? ⟨gk, 2 + who * 4, none⟩ = some (.int .u8 3) := k1
  have c3 : W.cell? ⟨gk, 2 + who * 4 + 3, none⟩ = some (.int .i64 0) := k2
  obtain ⟨n, Hn⟩ : ∃ n, Hid (s.lst.length = n) := ⟨_, rfl⟩
  obtain ⟨m, Hm⟩ : ∃ m, Hid (key.length = m) := ⟨_, rfl⟩
  have hn : n ≤ 4096 := by rw [← Hn.out]; exact hi.1.2.2
  have hm : m ≤ 256 := by rw [← Hm.out]; exact hask.2.2.1
  rw [Hn.out] at d3
  rw [Hm.out] at k4 k6
  have FD := Lib.hid (fun u (x : Ext W u) => rfind_any u LA K n lc m kc s.lst lks key Hn.out hi.1 (d4.ext x) Hm.out (by omega) hask.2.2.2.1 (k7.ext x))
  rw [show findI s.lst key = -1 from if_neg (by rw [hh]; exact Bool.false_ne_true)] at FD
  have HH := Lib.hid hh
  clear hh
  have HE := Lib.hid he; have HASK := Lib.hid hask; have LE := Lib.hid d4; have L5 := Lib.hid d5; have L6 := Lib.hid d6; have K7 := Lib.hid k7; have K8 := Lib.hid k8
  clear h xW hi he hask d1 d4 d5 d6 d7 d8 d9 k1 k2 k3 k7 k8
  go_enter Try.func43, Try.ntmps43
  go_upto_region 1 with fail
  (try rw [hW])
  clear hW
  go_upto_region 6 with fail
  go_region_held3 (fun u => u.cell? ⟨gk, 1, none⟩ = some (.slice LA n lc) ∧ u.cell? ⟨gk, 2 + who * 4 + 1, none⟩ = some (.slice K m kc))
    (((try dsimp only); refine ⟨?_, ?_⟩ <;> first | (with_reducible exact drew_cell d3) | (with_reducible exact drew_cell k4) | (with_reducible assumption)))
    ((go_at_call 71; (with_reducible refine (FD.out _ (by first | exact Ext.refl W | exact (Ext.refl W).drew)).mono ?_); rintro e V ⟨rfl, xV⟩; have XV := Lib.hid ((Ext.refl W).drew.trans xV); have e0 := ext_cell XV.out c0; have e1 := ext_cell XV.out k4; have e2 := ext_cell XV.out k5; have e3 := ext_cell XV.out c3; have e4 := ext_cell XV.out d2; have e5 := ext_cell XV.out d3; have KZV := Lib.hid (blk_ext KZ.out XV.out); have DV := Lib.hid (DW.out.ext XV.out); clear xV))
  all_goals
    have hn9 : n = 4096 := by rw [← Hn.out]; exact hfull
    have hn8 : (4096 : Int) ≤ (n : Int) := by omega
    go_wp2_with fail
    refine (dend_any V G gk who s 10 0 DV.out hw).mono ?_
    rintro e w5 ⟨rfl, hg5⟩
    have HG5 := Lib.hid hg5
    have KZ5 := Lib.hid (show w5.heap[w.heap.size]? = _ from by obtain ⟨G', _, g, _⟩ := hg5; exact g.blk KZV.out (by omega))
    clear hg5
    have t0 := blk_cell KZ5.out 0; have t1 := blk_cell KZ5.out 1; have t2 := blk_cell KZ5.out 2; have f0 := blk_frozen KZ5.out 0; have f1 := blk_frozen KZ5.out 1; have f2 := blk_frozen KZ5.out 2
    go_wp2_with fail
    refine bodyPost_ret (results_row_tmp (p := 4) (u := 5) rfl _ _ w.heap.size _ #[.bool true, .int .i64 10, .int .i64 0] (0, 0) _ rfl (row3 KZ5.out _ _ _) Try.underlying86 (by rfl) (by kernel_rfl)) rfl ?_
    exact ⟨rfl, dgo_res H.out XW.out (blk_lt KZ.out) (DocGo.backx XV.out HG5.out) _ _ _⟩
end Go.Proofs.Ytlgggeeflomelaa
