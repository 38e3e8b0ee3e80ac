/- shard: what a Shard is in memory. -/
import Derived.Test.YtlgggeeflomelaaShMade
import Derived.Deep.RegionHeld3
import Derived.Deep.QuietTactic
namespace Go.Proofs.Ytlgggeeflomelaa
open Go.RowKit

/-- a list that nothing writes any more -/
def EntF (w : World) (C F : Nat → Prop) (A : Option Addr) (l : List Ent) (ks : List Kref) : Prop := EntRd w A l ks ∧ (∀ a, A = some a → ¬ C a.block ∧ F a.block) ∧ ∀ q ∈ ks, ∀ a, q.1 = some a → ¬ C a.block ∧ F a.block
theorem rd_gb {w w' : World} {C F S : Nat → Prop} {A : Option Addr} {vs : List Value} (h : Rd w A vs) (hA : ∀ a, A = some a → ¬ C a.block ∧ F a.block) (k : GB w w' S) (hs : ∀ i, S i → C i ∨ ¬ F i ∨ w.heap.size ≤ i) (hlt : ∀ i, F i → i < w.heap.size) : Rd w' A vs := k.rd h (fun p hp e => by
  obtain ⟨h1, h2⟩ := hA p hp
  have := hlt _ h2
  rcases hs _ e with h | h | h
  · exact h1 h
  · exact h h2
  · omega)
theorem EntF.gb {w w' : World} {C F C' F' S : Nat → Prop} {A : Option Addr} {l : List Ent} {ks : List Kref} (h : EntF w C F A l ks) (k : GB w w' S) (hs : ∀ i, S i → C i ∨ ¬ F i ∨ w.heap.size ≤ i) (hc : ∀ i, i < w.heap.size → C' i → C i ∨ ¬ F i) (hf : ∀ i, F i → F' i) (hlt : ∀ i, F i → i < w.heap.size) : EntF w' C' F' A l ks := by
  obtain ⟨⟨h1, h2, h3⟩, h4, h5⟩ := h
  have hin : ∀ b, ¬ C b ∧ F b → ¬ C' b ∧ F' b := fun b hb => ⟨fun e => (hc b (hlt b hb.2) e).elim hb.1 (fun h => h hb.2), hf b hb.2⟩
  exact ⟨⟨h1, rd_gb h2 h4 k hs hlt, fun i q e hq he => ⟨(h3 i q e hq he).1, rd_gb (h3 i q e hq he).2 (h5 q (List.mem_of_getElem? hq)) k hs hlt⟩⟩, fun a ha => hin _ (h4 a ha), fun q hq a ha => hin _ (h5 q hq a ha)⟩
/-- the box of a call -/
def CallBox (w : World) (C F : Nat → Prop) (p : Value) (who op : Nat) (key : List Nat) (val : Int) : Prop :=
  ∃ b t K d, p = .pointer (some ⟨b, 0, none⟩) ∧ w.heap[b]? = some (.cells #[.int .i64 (who : Int), .int .u8 (op : Int), .slice K key.length d, .int .i64 val] t (0, 0)) ∧ ¬ C b ∧ F b ∧ key.length ≤ d ∧ Rd w K (vals .u8 key) ∧ ∀ a, K = some a → ¬ C a.block ∧ F a.block
theorem CallBox.gb {w w' : World} {C F C' F' S : Nat → Prop} {p : Value} {who op : Nat} {key : List Nat} {val : Int} (h : CallBox w C F p who op key val) (k : GB w w' S) (hs : ∀ i, S i → C i ∨ ¬ F i ∨ w.heap.size ≤ i) (hc : ∀ i, i < w.heap.size → C' i → C i ∨ ¬ F i) (hf : ∀ i, F i → F' i) (hlt : ∀ i, F i → i < w.heap.size) : CallBox w' C' F' p who op key val := by
  obtain ⟨b, t, K, d, h1, h2, h3, h4, h5, h6, h7⟩ := h
  have hin : ∀ b, ¬ C b ∧ F b → ¬ C' b ∧ F' b := fun b hb => ⟨fun e => (hc b (hlt b hb.2) e).elim hb.1 (fun h => h hb.2), hf b hb.2⟩
  refine ⟨b, t, K, d, h1, k.blk h2 (fun e => ?_), (hin b ⟨h3, h4⟩).1, hf b h4, h5, rd_gb h6 h7 k hs hlt, fun a ha => hin _ (h7 a ha)⟩
  have := hlt b h4
  rcases hs b e with h | h | h
  · exact h3 h
  · exact h h4
  · omega
/-- a pending call's function -/
def PendS (w : World) (C F : Nat → Prop) (gx who : Nat) (v : Value) : SCall → Prop
  | .idle => v = .nilFunc
  | .begun op key val => ∃ p0 p1, v = .func (.func 90) #[] #[p0, p1] ∧ BoxAt w C F p0 (.pointer (some ⟨gx, 0, none⟩)) ∧ CallBox w C F p1 who op key val
  | .swap op key val ver m n => ∃ p0 p1 p2 p3 p4 A c ks, v = .func (.func 95) #[] #[p0, p1, p2, p3, p4] ∧ BoxAt w C F p0 (.pointer (some ⟨gx, 0, none⟩)) ∧ CallBox w C F p1 who op key val ∧ BoxAt w C F p2 (.int .u64 (ver : Int)) ∧ BoxAt w C F p3 (.slice A m.length c) ∧ EntF w C F A m ks ∧ BoxAt w C F p4 (.int .i64 n)
theorem PendS.gb {w w' : World} {C F C' F' S : Nat → Prop} {gx who : Nat} {v : Value} {s : SCall} (h : PendS w C F gx who v s) (k : GB w w' S) (hs : ∀ i, S i → C i ∨ ¬ F i ∨ w.heap.size ≤ i) (hc : ∀ i, i < w.heap.size → C' i → C i ∨ ¬ F i) (hf : ∀ i, F i → F' i) (hlt : ∀ i, F i → i < w.heap.size) : PendS w' C' F' gx who v s := by
  cases s with
  | idle => exact h
  | begun op key val =>
    obtain ⟨p0, p1, h1, c0, c1⟩ := h
    exact ⟨p0, p1, h1, c0.gb k hs hc hf, c1.gb k hs hc hf hlt⟩
  | swap op key val ver m n =>
    obtain ⟨p0, p1, p2, p3, p4, A, c, ks, h1, c0, c1, c2, c3, c4, c5⟩ := h
    exact ⟨p0, p1, p2, p3, p4, A, c, ks, h1, c0.gb k hs hc hf, c1.gb k hs hc hf hlt, c2.gb k hs hc hf, c3.gb k hs hc hf, c4.gb k hs hc hf hlt, c5.gb k hs hc hf⟩
/-- a Shard in memory; C: the blocks that are written; F: these, and all that it reads -/
def ShAt (w : World) (C F : Nat → Prop) (gx gb : Nat) (L : List AccE) (s : SSt) : Prop :=
  ∃ (Fm : Nat → Prop) (gm gh : Nat) (fs : List Value) (A : Option Addr) (c : Nat) (ks : List Kref) (tx tb th : TypeId),
    MachAt w Fm gm [s.ver] 0 L ∧ w.heap[gx]? = some (.cells (.pointer (some ⟨gb, 0, none⟩) :: fs).toArray tx (0, 0)) ∧ fs.length = 64 ∧
    w.heap[gb]? = some (.cells #[.pointer (some ⟨gm, 0, none⟩), .slice (some ⟨gh, 0, none⟩) 1 1] tb (0, 0)) ∧ w.heap[gh]? = some (.cells #[.slice A s.lst.length c] th (0, 0)) ∧ EntF w C F A s.lst ks ∧
    (∀ (i : Nat) (v : Value), fs[i]? = some v → PendS w C F gx i v (s.call i)) ∧
    ¬ Fm gx ∧ ¬ Fm gh ∧ gx ≠ gh ∧ C gx ∧ C gh ∧ ¬ C gb ∧ F gb ∧ (∀ i, Fm i → C i) ∧ (∀ i, C i → F i) ∧ ∀ i, F i → i < w.heap.size
def ShGo (w : World) (C F : Nat → Prop) (gx gb : Nat) (L : List AccE) (s : SSt) (w' : World) : Prop :=
  ∃ C' F', ShAt w' C' F' gx gb L s ∧ GB w w' C ∧ (∀ i, C' i → C i ∨ w.heap.size ≤ i) ∧ (∀ i, F i → F' i) ∧ ∀ i, F' i → F i ∨ w.heap.size ≤ i
theorem ShAt.lt {w : World} {C F : Nat → Prop} {gx gb : Nat} {L : List AccE} {s : SSt} (h : ShAt w C F gx gb L s) : ∀ i, F i → i < w.heap.size := by
  obtain ⟨_, _, _, _, _, _, _, _, _, _, _, _, _, _, _, _, _, _, _, _, _, _, _, _, _, _, h⟩ := h
  exact h
theorem ShAt.sub {w : World} {C F : Nat → Prop} {gx gb : Nat} {L : List AccE} {s : SSt} (h : ShAt w C F gx gb L s) : ∀ i, C i → F i := by
  obtain ⟨_, _, _, _, _, _, _, _, _, _, _, _, _, _, _, _, _, _, _, _, _, _, _, _, _, h, _⟩ := h
  exact h
/-- nothing of it was touched -/
theorem ShAt.gb {w w' : World} {C F S : Nat → Prop} {gx gb : Nat} {L : List AccE} {s : SSt} (h : ShAt w C F gx gb L s) (k : GB w w' S) (hs : ∀ i, F i → ¬ S i) : ShAt w' C F gx gb L s := by
  obtain ⟨Fm, gm, gh, fs, A, c, ks, tx, tb, th, h1, h2, h3, h4, h5, h6, h7, h8, h9, h10, h11, h12, h13, h14, h15, h16, h17⟩ := h
  have hs' : ∀ i, S i → C i ∨ ¬ F i ∨ w.heap.size ≤ i := fun i hi => .inr (.inl fun e => hs i e hi)
  exact ⟨Fm, gm, gh, fs, A, c, ks, tx, tb, th, h1.gb k (fun i hi => hs i (h16 i (h15 i hi))), k.blk h2 (hs _ (h16 _ h11)), h3, k.blk h4 (hs _ h14), k.blk h5 (hs _ (h16 _ h12)), h6.gb k hs' (fun i _ e => .inl e) (fun _ e => e) h17, fun i v hv => (h7 i v hv).gb k hs' (fun i _ e => .inl e) (fun _ e => e) h17, h8, h9, h10, h11, h12, h13, h14, h15, h16, fun i hi => Nat.lt_of_lt_of_le (h17 i hi) k.size⟩
theorem ShAt.ext {w w' : World} {C F : Nat → Prop} {gx gb : Nat} {L : List AccE} {s : SSt} (h : ShAt w C F gx gb L s) (x : Ext w w') : ShAt w' C F gx gb L s := h.gb (GB.of_ext (fun _ => False) x) (fun _ _ => id)
theorem ShGo.refl {w : World} {C F : Nat → Prop} {gx gb : Nat} {L : List AccE} {s : SSt} (h : ShAt w C F gx gb L s) : ShGo w C F gx gb L s w := ⟨C, F, h, GB.refl w C, fun _ h => .inl h, fun _ h => h, fun _ h => .inl h⟩
theorem ShGo.ext {w w1 w2 : World} {C F : Nat → Prop} {gx gb : Nat} {L : List AccE} {s : SSt} (h : ShGo w C F gx gb L s w1) (x : Ext w1 w2) : ShGo w C F gx gb L s w2 := by
  obtain ⟨C', F', h1, h2, h3, h4, h5⟩ := h
  exact ⟨C', F', h1.ext x, h2.ext x, h3, h4, h5⟩
theorem ShGo.back {w0 w w1 : World} {C F : Nat → Prop} {gx gb : Nat} {L : List AccE} {s : SSt} (x : Ext w0 w) (h : ShGo w C F gx gb L s w1) : ShGo w0 C F gx gb L s w1 := by
  obtain ⟨C', F', h1, h2, h3, h4, h5⟩ := h
  exact ⟨C', F', h1, GB.back x h2, fun i hi => (h3 i hi).imp id (Nat.le_trans x.size), h4, fun i hi => (h5 i hi).imp id (Nat.le_trans x.size)⟩
theorem ShGo.trans {w w1 w2 : World} {C F C1 F1 : Nat → Prop} {gx gb : Nat} {L : List AccE} {s : SSt} (g : GB w w1 C) (hC : ∀ i, C1 i → C i ∨ w.heap.size ≤ i) (hF : ∀ i, F i → F1 i) (hF1 : ∀ i, F1 i → F i ∨ w.heap.size ≤ i) (h : ShGo w1 C1 F1 gx gb L s w2) : ShGo w C F gx gb L s w2 := by
  obtain ⟨C', F', h1, h2, h3, h4, h5⟩ := h
  refine ⟨C', F', h1, g.trans h2 hC, fun i hi => ?_, fun i hi => h4 i (hF i hi), fun i hi => ?_⟩
  · rcases h3 i hi with h | h
    · exact hC i h
    · exact .inr (Nat.le_trans g.size h)
  · rcases h5 i hi with h | h
    · exact hF1 i h
    · exact .inr (Nat.le_trans g.size h)
theorem ShAt.more {w : World} {C F F' : Nat → Prop} {gx gb : Nat} {L : List AccE} {s : SSt} (h : ShAt w C F gx gb L s) (h1 : ∀ i, F i → F' i) (h2 : ∀ i, F' i → i < w.heap.size) : ShAt w C F' gx gb L s := by
  obtain ⟨Fm, gm, gh, fs, A, c, ks, tx, tb, th, k1, k2, k3, k4, k5, k6, k7, k8, k9, k10, k11, k12, k13, k14, k15, k16, k17⟩ := h
  exact ⟨Fm, gm, gh, fs, A, c, ks, tx, tb, th, k1, k2, k3, k4, k5, k6.gb (GB.refl w (fun _ => False)) (fun _ e => e.elim) (fun _ _ e => .inl e) h1 k17, fun i v hv => (k7 i v hv).gb (GB.refl w (fun _ => False)) (fun _ e => e.elim) (fun _ _ e => .inl e) h1 k17, k8, k9, k10, k11, k12, k13, h1 _ k14, k15, fun i hi => h1 i (k16 i hi), h2⟩
/-- the machine goes on -/
theorem ShAt.mach {w : World} {C F : Nat → Prop} {gx gb : Nat} {L : List AccE} {s : SSt} (h : ShAt w C F gx gb L s) :
    ∃ Fm gm gh A c ks, MachAt w Fm gm [s.ver] 0 L ∧ w.cell? ⟨gx, 0, none⟩ = some (.pointer (some ⟨gb, 0, none⟩)) ∧ w.cell? ⟨gb, 0, none⟩ = some (.pointer (some ⟨gm, 0, none⟩)) ∧ w.cell? ⟨gb, 1, none⟩ = some (.slice (some ⟨gh, 0, none⟩) 1 1) ∧ w.cell? ⟨gh, 0, none⟩ = some (.slice A s.lst.length c) ∧ (∃ t cs, w.heap[gh]? = some (.cells cs t (0, 0))) ∧ EntF w C F A s.lst ks ∧ (∀ i, Fm i → C i) ∧ ¬ Fm gx ∧ ¬ Fm gh ∧ ¬ Fm gb ∧ ¬ C gb ∧ C gh ∧ gx ≠ gh ∧ gh < w.heap.size ∧
      (∀ L' w', MachGo w Fm gm [s.ver] 0 L' w' → ShGo w C F gx gb L' s w') ∧
      (∀ L' w' v' l' A' c' ks', MachGo w Fm gm [v'] 0 L' w' → EntF w C F A' l' ks' → ShGo w C F gx gb L' { s with ver := v', lst := l' } (w'.setCell ⟨gh, 0, none⟩ (.slice A' l'.length c'))) := by
  obtain ⟨Fm, gm, gh, fs, A, c, ks, tx, tb, th, h1, h2, h3, h4, h5, h6, h7, h8, h9, h10, h11, h12, h13, h14, h15, h16, h17⟩ := h
  have hnb : ¬ Fm gb := fun e => h13 (h15 _ e)
  have hq : ∀ q, C q → q < w.heap.size := fun q hq => h17 q (h16 q hq)
  have key : ∀ L' w' v' l' A' c' ks', MachGo w Fm gm [v'] 0 L' w' → EntF w C F A' l' ks' → ShGo w C F gx gb L' { s with ver := v', lst := l' } (w'.setCell ⟨gh, 0, none⟩ (.slice A' l'.length c')) := fun L' w' v' l' A' c' ks' hgo he => by
    obtain ⟨Fm', m, g, f⟩ := hgo
    have hnew : ∀ q, q < w.heap.size → ¬ Fm q → ¬ Fm' q := fun q hq h e => by
      rcases f q e with f | f
      · exact h f
      · omega
    have gs : GB w' (w'.setCell ⟨gh, 0, none⟩ (.slice A' l'.length c')) (· = gh) := (GB.refl w' (· = gh)).set gh _ _ (.inl rfl)
    have g2 : GB w (w'.setCell ⟨gh, 0, none⟩ (.slice A' l'.length c')) (fun i => Fm i ∨ i = gh) := (g.more (fun i _ hi => .inl hi)).trans gs (fun i e => .inl (.inr e))
    have hS : ∀ i, (Fm i ∨ i = gh) → C i ∨ ¬ F i ∨ w.heap.size ≤ i := fun i hi => .inl (hi.elim (h15 i) (fun e => e ▸ h12))
    have hCC : ∀ i, i < w.heap.size → (C i ∨ Fm' i) → C i ∨ ¬ F i := fun i hi e => by
      rcases e with e | e
      · exact .inl e
      · rcases f i e with f | f
        · exact .inl (h15 i f)
        · omega
    have hghl := hq _ h12
    refine ⟨fun i => C i ∨ Fm' i, fun i => F i ∨ Fm' i, ⟨Fm', gm, gh, fs, A', c', ks', tx, tb, th, m.gb gs (fun i hi e => hnew _ hghl h9 (e ▸ hi)), g2.blk h2 (fun e => e.elim h8 h10), h3, g2.blk h4 (fun e => e.elim hnb (fun e => h13 (e ▸ h12))), ?_, he.gb g2 hS hCC (fun _ e => .inl e) h17, fun i v hv => (h7 i v hv).gb g2 hS hCC (fun _ e => .inl e) h17, hnew _ (hq _ h11) h8, hnew _ hghl h9, h10, .inl h11, .inl h12, fun e => e.elim h13 (hnew _ (h17 _ h14) hnb), .inl h14, fun i hi => .inr hi, fun i hi => hi.imp (h16 i) id, fun i hi => ?_⟩, g2.more (fun i _ hi => hi.elim (h15 i) (fun e => e ▸ h12)), fun i hi => ?_, fun i hi => .inl hi, fun i hi => ?_⟩
    · exact blk_set (g.blk h5 h9) 0 _
    · have hz := gs.size
      rcases hi with hi | hi
      · exact Nat.lt_of_lt_of_le (h17 i hi) g2.size
      · exact Nat.lt_of_lt_of_le (m.lt i hi) hz
    · rcases hi with hi | hi
      · exact .inl hi
      · exact (f i hi).imp (h15 i) id
    · rcases hi with hi | hi
      · exact .inl hi
      · exact (f i hi).imp (fun e => h16 i (h15 i e)) id
  refine ⟨Fm, gm, gh, A, c, ks, h1, blk_cell h2 0, blk_cell h4 0, blk_cell h4 1, blk_cell h5 0, ⟨_, _, h5⟩, h6, h15, h8, h9, hnb, h13, h12, h10, hq _ h12, fun L' w' hgo => ?_, key⟩
  obtain ⟨Fm', m, g, f⟩ := hgo
  have hnew : ∀ q, q < w.heap.size → ¬ Fm q → ¬ Fm' q := fun q hq h e => by
    rcases f q e with f | f
    · exact h f
    · omega
  have hS : ∀ i, Fm i → C i ∨ ¬ F i ∨ w.heap.size ≤ i := fun i hi => .inl (h15 i hi)
  have hCC : ∀ i, i < w.heap.size → (C i ∨ Fm' i) → C i ∨ ¬ F i := fun i hi e => by
    rcases e with e | e
    · exact .inl e
    · rcases f i e with f | f
      · exact .inl (h15 i f)
      · omega
  refine ⟨fun i => C i ∨ Fm' i, fun i => F i ∨ Fm' i, ⟨Fm', gm, gh, fs, A, c, ks, tx, tb, th, m, g.blk h2 h8, h3, g.blk h4 hnb, g.blk h5 h9, h6.gb g hS hCC (fun _ e => .inl e) h17, fun i v hv => (h7 i v hv).gb g hS hCC (fun _ e => .inl e) h17, hnew _ (hq _ h11) h8, hnew _ (hq _ h12) h9, h10, .inl h11, .inl h12, fun e => e.elim h13 (hnew _ (h17 _ h14) hnb), .inl h14, fun i hi => .inr hi, fun i hi => hi.imp (h16 i) id, fun i hi => ?_⟩, g.more (fun i _ hi => h15 i hi), fun i hi => ?_, fun i hi => .inl hi, fun i hi => ?_⟩
  · rcases hi with hi | hi
    · exact Nat.lt_of_lt_of_le (h17 i hi) g.size
    · exact m.lt i hi
  · rcases hi with hi | hi
    · exact .inl hi
    · exact (f i hi).imp (h15 i) id
  · rcases hi with hi | hi
    · exact .inl hi
    · exact (f i hi).imp (fun e => h16 i (h15 i e)) id
/-- a worker's pending call, and what it may become -/
theorem ShAt.pend {w : World} {C F : Nat → Prop} {gx gb who : Nat} {L : List AccE} {s : SSt} (h : ShAt w C F gx gb L s) (hw : who < 64) :
    ∃ f, w.cell? ⟨gx, 1 + who, none⟩ = some f ∧ w.frozen? ⟨gx, 1 + who, none⟩ = false ∧ C gx ∧ PendS w C F gx who f (s.call who) ∧
      ∀ f' c', PendS w C F gx who f' c' → ShGo w C F gx gb L (s.put who c') (w.setCell ⟨gx, 1 + who, none⟩ f') := by
  obtain ⟨Fm, gm, gh, fs, A, c, ks, tx, tb, th, h1, h2, h3, h4, h5, h6, h7, h8, h9, h10, h11, h12, h13, h14, h15, h16, h17⟩ := h
  obtain ⟨v, hv⟩ : ∃ v, fs[who]? = some v := ⟨_, List.getElem?_eq_getElem (by omega)⟩
  refine ⟨v, (blk_cell h2 _).trans (by rw [List.getElem?_toArray, Nat.add_comm, List.getElem?_cons_succ]; exact hv), blk_frozen h2 _, h11, h7 who v hv, fun f' c' hp => ?_⟩
  have gs : GB w (w.setCell ⟨gx, 1 + who, none⟩ f') (· = gx) := (GB.refl w (· = gx)).set gx _ _ (.inl rfl)
  have hS : ∀ i, i = gx → C i ∨ ¬ F i ∨ w.heap.size ≤ i := fun i e => .inl (e ▸ h11)
  have hCC : ∀ i, i < w.heap.size → C i → C i ∨ ¬ F i := fun i _ e => .inl e
  refine ⟨C, F, ⟨Fm, gm, gh, fs.set who f', A, c, ks, tx, tb, th, h1.gb gs (fun i hi e => h8 (e ▸ hi)), ?_, by simpa using h3, gs.blk h4 (fun e => h13 (e ▸ h11)), gs.blk h5 (fun e => h10 e.symm), h6.gb gs hS hCC (fun _ e => e) h17, fun i y hy => ?_, h8, h9, h10, h11, h12, h13, h14, h15, h16, fun i hi => by simpa using h17 i hi⟩, (GB.refl w C).set gx _ _ (.inl h11), fun _ h => .inl h, fun _ h => h, fun _ h => .inl h⟩
  · refine (blk_set h2 _ _).trans ?_
    rw [List.setIfInBounds_toArray, Nat.add_comm, List.set_cons_succ]
  · by_cases e : i = who
    · subst e
      rw [List.getElem?_set_self (by omega)] at hy
      injection hy with hy
      subst hy
      rw [sput_self]
      exact hp.gb gs hS hCC (fun _ e => e) h17
    · rw [List.getElem?_set_ne (fun h => e h.symm)] at hy
      rw [sput_other s c' e]
      exact (h7 i y hy).gb gs hS hCC (fun _ e => e) h17
end Go.Proofs.Ytlgggeeflomelaa
