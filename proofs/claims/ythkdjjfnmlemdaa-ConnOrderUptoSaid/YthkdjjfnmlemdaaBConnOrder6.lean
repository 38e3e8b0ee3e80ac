/- Laid together: what 'ConnOrder' needs, part 6 of 6. -/
import Derived.Lib.SlBytesConst
import Derived.Deep.Slices
import Derived.Deep.Fields
import Derived.ChangeSame
import Derived.Test.YthkdjjfnmlemdaaBConnOrder1
import Derived.Test.YthkdjjfnmlemdaaBConnOrder3
import Derived.Test.YthkdjjfnmlemdaaBConnOrder5
namespace Go.Proofs.Ythkdjjfnmlemdaa

section
open Go.RowKit

theorem PL.gb {w w' : World} {base : Nat} {A : Option Addr} {n c : Nat} {pss : List (List Nat)} {T : Nat → Prop} (h : PL w base A n c pss) (g : GB w w' T) (hT : ∀ b, T b → b < base) : PL w' base A n c pss := by
  obtain ⟨h1, vs, gs, h2, h3, h4, h5, h6⟩ := h
  refine ⟨h1, vs, gs, g.own h2 (fun b e t => by have := (h2.lt b e).1; have := hT b t; omega), h3, h4, fun b hb => Nat.lt_of_lt_of_le (h5 b hb) g.size, fun i ps hi => ?_⟩
  obtain ⟨q, ci, k1, k2, k3⟩ := h6 i ps hi
  exact ⟨q, ci, k1, k2, g.own k3 (fun b e t => by have := (k3.lt b e).1; have := hT b t; omega)⟩
def finF (ws : List Nat) : Nat := if (parse ws).2.2 = true then 12 else 0
theorem finF_int (ws : List Nat) : ((finF ws : Nat) : Int) = endF ws := by
  unfold finF endF
  split <;> rfl
/-- the reader went on -/
theorem ConnAt.fed {w : World} {base gc r : Nat} {L : List (Option Nat)} {RO : Nat → Prop} {s : CSt} (h : ConnAt w base L RO gc r s) :
    w.cell? ⟨gc, 0, none⟩ = some (.pointer (some ⟨r, 0, none⟩)) ∧ w.cell? ⟨gc, 2, none⟩ = some (.int .i64 (s.fin : Int)) ∧ w.cell? ⟨gc, 6, none⟩ = some (.bool s.closed) ∧ (∃ S, IsRdr w r s.ws s.cl S) ∧ gc ≠ r ∧ some r ∈ L ∧
      ∀ (w1 : World) (ws : List Nat) (cl : Bool) (S : Nat), w.grownBy w1 (some r) → S ≤ w1.heap.size → IsRdr w1 r ws cl (fun b => w.heap.size ≤ b ∧ b < S) → ConnAt w1 base L (fun b => RO b ∨ (w.heap.size ≤ b ∧ b < S)) gc r { s with ws := ws, cl := cl } := by
  obtain ⟨S0, lv, ov, lob, lk, tk, WA, TA, wn, wc, tn, tc, h1, h2, h3, h4, h5, h6, h7, h8, h9, h10, h11, h12, h13, h14, h15, h16, h17, h18, h19⟩ := h
  have h2' := h2
  rw [h1] at h2'
  obtain ⟨a1, a2, a3, a4⟩ := apart5 h2'
  have hrL : some r ∈ L := by rw [h1]; simp
  refine ⟨blk_cell h3 0, blk_cell h3 2, blk_cell h3 6, ⟨S0, h4⟩, a1, hrL, fun w1 ws cl S g1 hS hr => ?_⟩
  have g : GB w w1 (· = r) := (GB.refl w _).grown g1 (fun q e => by injection e with e; exact .inl e.symm)
  have hR : ∀ b, RO b → ¬ b = r := fun b hb e => (h18 b hb).1 (by rw [h1, e]; simp)
  have hgc := (h19 gc (by rw [h1]; simp))
  refine ⟨fun b => w.heap.size ≤ b ∧ b < S, lv, ov, lob, lk, tk, WA, TA, wn, wc, tn, tc, h1, h2, g.blk h3 a1, hr, fun b hb => .inr hb, h6, h7.gb g (fun b e => (a2 b e).2), h8.gbk h9 g hR, fun k hk a e => .inl (h9 k hk a e), ?_, h11, g.own h12 (fun b e => (a3 b e).2.1), h13, h14, g.own h15 (fun b e => (a4 b e).2.1), h16.gbk h17 g hR, fun k hk a e => .inl (h17 k hk a e), fun b hb => ?_, fun b hb => ⟨(h19 b hb).1, Nat.lt_of_lt_of_le (h19 b hb).2 g.size⟩⟩
  · have o1 := h10.gbk g hR
    revert o1
    cases s.out with
    | none => exact id
    | some c =>
      rintro ⟨o, k, e1, e2, e3, e4, e5, e6⟩
      exact ⟨o, k, e1, e2, e3, e4, .inl e5, fun a e => .inl (e6 a e)⟩
  · rcases hb with hb | hb
    · exact ⟨(h18 b hb).1, (h18 b hb).2.1, Nat.lt_of_lt_of_le (h18 b hb).2.2 g.size⟩
    · exact ⟨fun e => by have := (h19 b e).2; omega, by omega, by omega⟩
/-- the line, and what it may become -/
theorem ConnAt.lines {w : World} {base gc r : Nat} {L : List (Option Nat)} {RO : Nat → Prop} {s : CSt} (h : ConnAt w base L RO gc r s) :
    ∃ (lv : Value) (lob : Option Nat) (lk : List KRef), w.cell? ⟨gc, 1, none⟩ = some lv ∧ w.frozen? ⟨gc, 1, none⟩ = false ∧ (∀ b, lob = some b → some b ∈ L ∧ b ≠ gc) ∧ OffS w 4 lob lv s.line.length (callsV lk s.line) ∧ lk.length = s.line.length ∧
      ∀ (w3 : World) (v' : Value) (ob' : Option Nat) (K : Option Addr) (kc : Nat) (c : CCall), OffS w3 4 ob' v' (s.line.length + 1) (callsV lk s.line ++ callC (K, kc) c) → GB w w3 (fun b => lob = some b) → (∀ b, ob' = some b → lob = some b ∨ w.heap.size ≤ b) →
        c.key.length ≤ kc → Rd w3 K (vals .u8 c.key) → (∀ a, K = some a → some a.block ∉ L ∧ base ≤ a.block ∧ a.block < w.heap.size) →
        ConnAt (w3.setCell ⟨gc, 1, none⟩ v') base ([some gc, some r, ob'] ++ L.drop 3) (fun b => RO b ∨ ∃ a, K = some a ∧ a.block = b) gc r { s with line := s.line ++ [c] } ∧ GB w (w3.setCell ⟨gc, 1, none⟩ v') (fun b => some b ∈ L) ∧ ∀ b, some b ∈ [some gc, some r, ob'] ++ L.drop 3 → some b ∈ L ∨ w.heap.size ≤ b := by
  obtain ⟨S, lv, ov, lob, lk, tk, WA, TA, wn, wc, tn, tc, h1, h2, h3, h4, h5, h6, h7, h8, h9, h10, h11, h12, h13, h14, h15, h16, h17, h18, h19⟩ := h
  rw [h1] at h2
  obtain ⟨a1, a2, a3, a4⟩ := apart5 h2
  have hgcl := (h19 gc (by rw [h1]; simp))
  have hwL : ∀ b, lob = some b → some b ∈ L := fun b e => by rw [h1, ← e]; simp
  refine ⟨lv, lob, lk, blk_cell h3 1, blk_frozen h3 1, fun b e => ⟨hwL b e, (a2 b e).1⟩, h7, h6, fun w3 v' ob' K kc c ho g hb hkc hkr hK => ?_⟩
  have g2 : GB w (w3.setCell ⟨gc, 1, none⟩ v') (fun b => b = gc ∨ lob = some b) := (g.more (fun b _ e => .inr e)).trans ((GB.refl w3 (· = gc)).set gc 1 _ (.inl rfl)) (fun b e => .inl (.inl e))
  have gs : GB w3 (w3.setCell ⟨gc, 1, none⟩ v') (· = gc) := (GB.refl w3 (· = gc)).set gc 1 _ (.inl rfl)
  have hR : ∀ b, RO b → ¬ (b = gc ∨ lob = some b) := fun b hb e => (h18 b hb).1 (e.elim (fun e => by rw [h1, e]; simp) (hwL b))
  have hsz := g.size
  have hlt : ∀ b, some b ∈ L → b < w.heap.size := fun b e => (h19 b e).2
  have hnew : ∀ q, ob' = some q → q ≠ gc ∧ q ≠ r := fun q e => (hb q e).elim (fun e => a2 q e) (fun e => ⟨fun e2 => by omega, fun e2 => by have := (h19 r (by rw [h1]; simp)).2; omega⟩)
  have hnot : ∀ q, ob' = some q → (Value.slice WA wn wc).ownBlock ≠ some q ∧ (Value.slice TA tn tc).ownBlock ≠ some q := fun q e => (hb q e).elim (fun e => ⟨fun e2 => (a3 q e2).2.2 e, fun e2 => (a4 q e2).2.2.1 e⟩) (fun e => ⟨fun e2 => by have := (h19 q (by rw [h1, ← e2]; simp)).2; omega, fun e2 => by have := (h19 q (by rw [h1, ← e2]; simp)).2; omega⟩)
  have hL' : [some gc, some r, ob'] ++ L.drop 3 = [some gc, some r, ob', (Value.slice WA wn wc).ownBlock, (Value.slice TA tn tc).ownBlock] := by rw [h1]; rfl
  have hmem : ∀ b, some b ∈ [some gc, some r, ob'] ++ L.drop 3 → some b ∈ L ∨ w.heap.size ≤ b := fun b hb' => by
    rw [hL'] at hb'
    rcases List.mem_cons.1 hb' with e | hb'
    · exact .inl (by rw [e, h1]; simp)
    · rcases List.mem_cons.1 hb' with e | hb'
      · exact .inl (by rw [e, h1]; simp)
      · rcases List.mem_cons.1 hb' with e | hb'
        · exact (hb b e.symm).imp (hwL b) id
        · exact .inl (by rw [h1]; exact List.mem_cons_of_mem _ (List.mem_cons_of_mem _ (List.mem_cons_of_mem _ hb')))
  have hKg : ∀ a, K = some a → ¬ a.block = gc := fun a e e2 => (hK a e).1 (by rw [e2, h1]; simp)
  have hKb : ∀ a, K = some a → ¬ (some a.block ∈ [some gc, some r, ob'] ++ L.drop 3) := fun a e e2 => (hmem _ e2).elim (hK a e).1 (fun e3 => by have := (hK a e).2.2; omega)
  refine ⟨?_, g2.more (fun b _ e => e.elim (fun e => by rw [h1, e]; simp) (hwL b)), hmem⟩
  refine ⟨S, v', ov, ob', lk ++ [(K, kc)], tk, WA, TA, wn, wc, tn, tc, hL', ?_, blk_set (g.blk h3 (fun e => (a2 gc e).1 rfl)) 1 _, IsRdr.gb h4 g2 (fun e => e.elim (fun e => a1 e.symm) (fun e => (a2 r e).2 rfl)) (fun b hb => hR b (h5 b hb)), fun b hb => .inl (h5 b hb), by simp [h6], ?_, ?_, ?_, ?_, h11, g2.own h12 (fun b e e2 => e2.elim (fun e2 => (a3 b e).1 e2) (fun e2 => (a3 b e).2.2 e2)), h13, h14, g2.own h15 (fun b e e2 => e2.elim (fun e2 => (a4 b e).1 e2) (fun e2 => (a4 b e).2.2.1 e2)), h16.gbk h17 g2 hR, fun k hk a e => .inl (h17 k hk a e), fun b hbR => ?_, fun b hbL => ?_⟩
  · rw [hL']
    exact apart5_mk a1 hnew (fun q e => ⟨(a3 q e).1, (a3 q e).2.1, fun e2 => (hnot q e2).1 e⟩) (fun q e => ⟨(a4 q e).1, (a4 q e).2.1, (fun e2 => (hnot q e2).2 e), (a4 q e).2.2.2⟩)
  · rw [List.length_append]
    have := ho.gb gs (fun b e => (hnew b e).1)
    unfold callsV at this ⊢
    rw [zipV_snoc callC h6 (K, kc) c]
    exact this
  · refine (h8.gbk h9 g2 hR).snoc h6 hkc (gs.rd hkr hKg)
  · intro k hk a e
    rcases List.mem_append.1 hk with hk | hk
    · exact .inl (h9 k hk a e)
    · rw [List.mem_singleton.1 hk] at e
      exact .inr ⟨a, e, rfl⟩
  · have o1 := h10.gbk g2 hR
    revert o1
    cases s.out with
    | none => exact id
    | some c =>
      rintro ⟨o, k, e1, e2, e3, e4, e5, e6⟩
      exact ⟨o, k, e1, e2, e3, e4, .inl e5, fun a e => .inl (e6 a e)⟩
  · rcases hbR with hbR | ⟨a, e1, e2⟩
    · refine ⟨fun e => (hmem b e).elim (h18 b hbR).1 (fun e => by have := (h18 b hbR).2.2; omega), (h18 b hbR).2.1, Nat.lt_of_lt_of_le (h18 b hbR).2.2 g2.size⟩
    · subst e2
      exact ⟨hKb a e1, (hK a e1).2.1, Nat.lt_of_lt_of_le (hK a e1).2.2 g2.size⟩
  · rcases List.mem_cons.1 (show some b ∈ some gc :: some r :: ob' :: L.drop 3 from hbL) with e | hbL'
    · injection e with e
      subst e
      exact ⟨hgcl.1, Nat.lt_of_lt_of_le hgcl.2 g2.size⟩
    · rcases hmem b hbL with e | e
      · exact ⟨(h19 b e).1, Nat.lt_of_lt_of_le (h19 b e).2 g2.size⟩
      · refine ⟨by omega, ?_⟩
        rw [World.size_setCell]
        rw [hL'] at hbL
        rcases List.mem_cons.1 hbL' with e1 | hbL'
        · injection e1 with e1
          subst e1
          have := hlt b (by rw [h1]; simp)
          omega
        · rcases List.mem_cons.1 hbL' with e1 | hbL'
          · exact ho.lt b e1.symm
          · have : some b ∈ L := List.mem_of_mem_drop hbL'
            have := hlt b this
            omega
/-- what stands behind the line -/
theorem ConnAt.setFin {w : World} {base gc r : Nat} {L : List (Option Nat)} {RO : Nat → Prop} {s : CSt} (h : ConnAt w base L RO gc r s) (e : Nat) :
    ConnAt (w.setCell ⟨gc, 2, none⟩ (.int .i64 (e : Int))) base L RO gc r { s with fin := e } ∧ GB w (w.setCell ⟨gc, 2, none⟩ (.int .i64 (e : Int))) (fun b => some b ∈ L) := by
  obtain ⟨S, lv, ov, lob, lk, tk, WA, TA, wn, wc, tn, tc, h1, h2, h3, h4, h5, h6, h7, h8, h9, h10, h11, h12, h13, h14, h15, h16, h17, h18, h19⟩ := h
  have h2' := h2
  rw [h1] at h2'
  obtain ⟨a1, a2, a3, a4⟩ := apart5 h2'
  have g : GB w (w.setCell ⟨gc, 2, none⟩ (.int .i64 (e : Int))) (· = gc) := (GB.refl w (· = gc)).set gc 2 _ (.inl rfl)
  have hR : ∀ b, RO b → ¬ b = gc := fun b hb e => (h18 b hb).1 (by rw [h1, e]; simp)
  exact ⟨⟨S, lv, ov, lob, lk, tk, WA, TA, wn, wc, tn, tc, h1, h2, blk_set h3 2 _, IsRdr.gb h4 g (fun e => a1 e.symm) (fun b hb => hR b (h5 b hb)), h5, h6, h7.gb g (fun b e => (a2 b e).1), h8.gbk h9 g hR, h9, h10.gbk g hR, h11, g.own h12 (fun b e => (a3 b e).1), h13, h14, g.own h15 (fun b e => (a4 b e).1), h16.gbk h17 g hR, h17, fun b hb => ⟨(h18 b hb).1, (h18 b hb).2.1, by simpa using (h18 b hb).2.2⟩, fun b hb => ⟨(h19 b hb).1, by simpa using (h19 b hb).2⟩⟩, g.more (fun b _ e => by rw [e, h1]; simp)⟩
theorem readL_snoc (y : List Nat) : ∀ (l : List CCall) (xs : List (List Nat)), (readL l xs).2 = false → readL l (xs ++ [y]) = match decC y with | some c => ((readL l xs).1 ++ [c], false) | none => ((readL l xs).1, true)
  | l, [], _ => by
    rw [List.nil_append, readL]
    cases hd : decC y <;> simp [readL, hd]
  | l, x :: xs, h => by
    rw [List.cons_append]
    unfold readL at h ⊢
    cases hx : decC x with
    | none => rw [hx] at h; cases h
    | some c =>
      rw [hx] at h
      dsimp only at h ⊢
      exact readL_snoc y (l ++ [c]) xs h
theorem readL_stop (ys : List (List Nat)) : ∀ (l : List CCall) (xs : List (List Nat)), (readL l xs).2 = true → readL l (xs ++ ys) = readL l xs
  | l, [], h => by cases h
  | l, x :: xs, h => by
    rw [List.cons_append]
    unfold readL at h ⊢
    cases hx : decC x with
    | none => rfl
    | some c =>
      rw [hx] at h
      dsimp only at h ⊢
      exact readL_stop ys (l ++ [c]) xs h
theorem readL_len : ∀ (l : List CCall) (xs : List (List Nat)), (readL l xs).1.length ≤ l.length + xs.length
  | l, [] => by unfold readL; simp
  | l, x :: xs => by
    unfold readL
    cases hx : decC x with
    | none => simp
    | some c =>
      have := readL_len (l ++ [c]) xs
      simp only [List.length_append, List.length_cons, List.length_nil] at this ⊢
      omega
noncomputable def fedS (s : CSt) (al : List Nat) : CSt := { s with ws := leftF al, cl := (parse al).2.2, line := (readL s.line (parse al).1).1, fin := if (readL s.line (parse al).1).2 = true then 3 else finF al }

set_option maxHeartbeats 1000000 in
set_option maxRecDepth 100000 in
theorem cfeed_closed (w : World) (base gc r : Nat) (L : List (Option Nat)) (RO : Nat → Prop) (s : CSt) (h : ConnAt w base L RO gc r s) (hc : s.closed = true ∨ s.fin ≠ 0) (A : Option Addr) (n c : Nat) :
    Calls Try.prog 49 #[.pointer (some ⟨gc, 0, none⟩), .slice A n c] w fun e w' => e = .returned (.int .i64 13) ∧ w = w' := by
  obtain ⟨-, c2, c6, -⟩ := h.fed
  obtain ⟨cl, hcl⟩ : ∃ b, s.closed = b := ⟨_, rfl⟩
  rw [hcl] at hc c6
  clear h hcl
  cases cl with
  | true =>
    clear hc
    go_enter Try.func49, Try.ntmps49
    go_wp2_with fail
    go_ret
    exact ⟨rfl, rfl⟩
  | false =>
    have hf : ¬ s.fin = 0 := hc.elim (fun e => by cases e) id
    have hne : ((s.fin : Int) != 0) = true := by simpa using hf
    clear hc hf
    go_enter Try.func49, Try.ntmps49
    go_wp2_with fail
    go_ret
    exact ⟨rfl, rfl⟩
theorem ConnGo.trans {w w1 w2 : World} {base gc r : Nat} {L : List (Option Nat)} {RO : Nat → Prop} {s s2 : CSt} (h : ConnGo w base L RO gc r s w1) (k : ∀ L1 RO1, ConnAt w1 base L1 RO1 gc r s → ConnGo w1 base L1 RO1 gc r s2 w2) : ConnGo w base L RO gc r s2 w2 := by
  obtain ⟨L1, RO1, h1, h2, h3, h4⟩ := h
  exact conn_go_then h2 h3 h4 (k L1 RO1 h1)
theorem frz_gb {w w' : World} {S : Nat → Prop} {gc i : Nat} {v : Value} (g : GB w w' S) (h : w.cell? ⟨gc, i, none⟩ = some v) (hf : w.frozen? ⟨gc, i, none⟩ = false) (hn : ¬ S gc) : w'.frozen? ⟨gc, i, none⟩ = false := by
  have hb := g.block gc (World.block_lt_of_cell? w _ h) hn
  unfold World.frozen? at hf ⊢
  simp only [hb]
  exact hf
def FeedC (w : World) (base : Nat) (L : List (Option Nat)) (RO : Nat → Prop) (gc r : Nat) (s : CSt) (al : List Nat) (e : Ending) (w' : World) : Prop :=
  e = .returned (.int .i64 0) ∧ ConnGo w base L RO gc r (fedS s al) w'
set_option maxHeartbeats 8000000 in
set_option maxRecDepth 100000 in
theorem cfeed_open (w : World) (base gc r : Nat) (L : List (Option Nat)) (RO : Nat → Prop) (s : CSt) (h : ConnAt w base L RO gc r s) (hi : CInv s) (hc : s.closed = false) (hf : s.fin = 0) (hcl : s.cl = false) (A : Option Addr) (n c : Nat) (xs : List Nat) (hl : xs.length = n) (hb : ∀ x ∈ xs, x < 256) (hr : Rd w A (vals .u8 xs))
    (hN : s.ws.length + n ≤ 5000000000000) (hP : s.line.length + (parse (s.ws ++ xs)).1.length ≤ 1000000) :
    Calls Try.prog 49 #[.pointer (some ⟨gc, 0, none⟩), .slice A n c] w (FeedC w base L RO gc r s (s.ws ++ xs)) := by
  obtain ⟨c0, c2, c6, ⟨S, hrd⟩, hgr, hrL, fed⟩ := h.fed
  have B := h.bounds
  rw [hc] at c6
  rw [hf] at c2
  rw [hcl] at hrd
  have FD := Lib.hid (feed_open w r S s.ws A n c xs hrd hi.1 hl hb hr hN)
  have hba : ∀ x ∈ s.ws ++ xs, x < 256 := fun x hx => (List.mem_append.1 hx).elim (hi.1 x) (hb x)
  obtain ⟨al, Hal⟩ : ∃ al, Hid (s.ws ++ xs = al) := ⟨_, rfl⟩
  rw [Hal.out] at FD hP hba ⊢
  obtain ⟨-, -, hps⟩ := parse_small (al.length + 1) al (by omega)
  have HPS := Lib.hid (show ∀ ps ∈ (parse al).1, ps.length ≤ 4096 ∧ ∀ x ∈ ps, x < 256 from fun ps h => ⟨(hps ps h).1, fun x hx => hba x ((hps ps h).2 x hx)⟩)
  have FED := Lib.hid fed; have BB := Lib.hid B; have H := Lib.hid h
  clear h hrd hi hb hr hl fed B hps hba hc hf hcl
  go_enter Try.func49, Try.ntmps49
  go_wp2_with fail
  refine FD.out.mono ?_
  intro e w1 hF
  obtain ⟨S1, A1, n1, c1, rfl, hn1, hS1, hP1, hR1, hg1⟩ := feedR_any hF
  have hca := FED.out w1 _ _ S1 hg1 hS1.2 hR1
  have g1 : GB w w1 (fun b => some b ∈ L) := (GB.refl w _).grown hg1 (fun q e => by injection e with e; exact .inl (by rw [← e]; exact hrL))
  obtain ⟨en, Hen⟩ : ∃ en, Hid (endF al = ((en : Nat) : Int) ∧ finF al = en) := ⟨finF al, (finF_int al).symm, rfl⟩
  rw [Hen.out.1]
  have hlt : ∀ b, some b ∈ L → b < S1 := fun b e => by have := (BB.out.2.1 b e).2; omega
  have HCA := Lib.hid hca; have G1 := Lib.hid g1; have HP1 := Lib.hid hP1; have HLT := Lib.hid hlt; have HN1 := Lib.hid hn1
  have hsl : s.line.length + n1 ≤ 1000000 := by rw [← hn1]; exact hP
  have d2' := (hca.cells)
  clear hF hR1 hg1 hca g1 hP1 hlt c0 c2 c6 d2' hP hn1
  go_wp2_with fail
  go_loopw [37] (fun i wr => ∃ k : Nat, k ≤ n1 ∧ i = .int .i64 (k : Int) ∧ (readL s.line ((parse al).1.take k)).2 = false ∧ ConnGo w1 base L (fun b => RO b ∨ (w.heap.size ≤ b ∧ b < S1)) gc r { s with ws := leftF al, cl := (parse al).2.2, line := (readL s.line ((parse al).1.take k)).1 } wr) (fun i _ => n1 - (intOf i).toNat)
  case atStart => exact ⟨0, Nat.zero_le _, rfl, by rw [List.take_zero]; rfl, by rw [List.take_zero]; exact ConnGo.refl HCA.out (Ext.refl _)⟩
  case round =>
    obtain ⟨k, hk, rfl, hbad, hgo⟩ := hrel
    by_cases hlt : k < n1
    · obtain ⟨ys, hys⟩ : ∃ ys, (parse al).1[k]? = some ys := ⟨_, List.getElem?_eq_getElem (by rw [HN1.out]; exact hlt)⟩
      obtain ⟨L2, RO2, k1, k2, k3, k4⟩ := hgo
      have hpl := HP1.out.gb k2 HLT.out
      obtain ⟨b, off, Ai, ci, hA, d0, hci, hrd⟩ := hpl.rd.at_ hys
      obtain ⟨hy1, hy2⟩ := HPS.out ys (List.mem_of_getElem? hys)
      have HT := Lib.hid (take_succ_of hys)
      have hll := readL_len s.line ((parse al).1.take k)
      have hlk0 : (readL s.line ((parse al).1.take k)).1.length ≤ 1000000 := by rw [List.length_take] at hll; omega
      have HB := Lib.hid hbad
      subst hA
      have K1 := Lib.hid k1; have K2 := Lib.hid k2; have K3 := Lib.hid k3; have K4 := Lib.hid k4
      obtain ⟨m, Hm⟩ : ∃ m, Hid (ys.length = m) := ⟨_, rfl⟩
      rw [Hm.out] at d0 hci hy1
      have HYS := Lib.hid hys; have HRD := Lib.hid hrd; have HY2 := Lib.hid hy2
      clear hbad k1 k2 k3 k4 hpl hrd hys hy2 hll
      cases hd : decC ys with
      | none =>
        have RQ := Lib.hid (readReq_none wr Ai m ci ys Hm.out hy1 hci HY2.out HRD.out (decC_none hd))
        have HD := Lib.hid hd
        clear hd
        go_wp2_with fail
        refine RQ.out.mono ?_
        rintro e w2 ⟨rfl, x2⟩
        obtain ⟨-, -, -, -, d2, -, -, fz, -, hgl⟩ := (K1.out.ext x2).cells
        have f2 := fz 2
        have X2 := Lib.hid x2
        clear fz x2 d0
        go_wp2_with fail
        go_ret
        refine ⟨rfl, ?_⟩
        have hs0 := (K1.out.ext X2.out).setFin 3
        have xB := (Ext.refl (w2.setCell ⟨gc, 2, none⟩ (.int .i64 3))).alloc (.cells #[.int .u8 0, .int .i64 0, .slice none 0 0, .int .i64 0] 63)
        have hs := And.intro (hs0.1.ext xB) (hs0.2.ext xB)
        refine conn_go_then G1.out (fun b e => .inl e) (fun b e => e.elim .inl (fun e => .inr (.inr e.1))) (conn_go_then K2.out K3.out K4.out (s2 := fedS s al) ⟨L2, RO2, ?_, GB.back X2.out hs.2, fun b e => .inl e, fun b e => .inl e⟩)
        have e1 := readL_snoc ys s.line _ HB.out
        rw [← HT.out, HD.out] at e1
        dsimp only at e1
        have e2 := readL_stop ((parse al).1.drop (k + 1)) s.line ((parse al).1.take (k + 1)) (by rw [e1])
        rw [List.take_append_drop, e1] at e2
        unfold fedS
        rw [e2]
        exact hs.1
      | some c =>
        obtain ⟨hn, he⟩ := decC_some hd
        have RQ := Lib.hid (readReq_ok wr Ai m ci ys c.key c.op c.pol c.num Hm.out hy1 hci HY2.out HRD.out ⟨hn, by rw [List.append_nil]; exact he, fun _ => rfl⟩)
        have HD := Lib.hid hd
        clear hd hn he
        go_wp2_with fail
        refine RQ.out.mono ?_
        rintro e w2 ⟨Ak, kc, rfl, ho2, x2⟩
        obtain ⟨op, pol, key, num⟩ := c
        dsimp only at ho2 RQ ⊢
        obtain ⟨kl, Hkl⟩ : ∃ kl, Hid (key.length = kl) := ⟨_, rfl⟩
        have hko : w2.ownsRow wr.heap.size 5 1 (.slice Ak kl kc) kl (vals .u8 key) := by rw [← Hkl.out]; exact ho2
        rw [Hkl.out]
        obtain ⟨X, hX⟩ : ∃ X, w2.alloc (.cells #[.int .u8 (op : Int), .int .i64 (pol : Int), .slice Ak kl kc, .int .i64 (num : Int)] 63) = X := ⟨_, rfl⟩
        have xX : Ext w2 X := by rw [← hX]; exact (Ext.refl w2).alloc _
        have KX := Lib.hid (show X.heap[w2.heap.size]? = some (.cells #[.int .u8 (op : Int), .int .i64 (pol : Int), .slice Ak kl kc, .int .i64 (num : Int)] 63 (0, 0)) by rw [← hX]; exact blk_new w2 _)
        have xw := x2.trans xX
        obtain ⟨lv, lob, lk, c1, f1, hlob, hoff, hlk, step⟩ := (K1.out.ext xw).lines
        dsimp only at hoff hlk step
        obtain ⟨q, Hq⟩ : ∃ q, Hid ((readL s.line ((parse al).1.take k)).1.length = q) := ⟨_, rfl⟩
        have hlk_ : q ≤ 1000000 := by rw [← Hq.out]; exact hlk0
        rw [Hq.out] at hoff hlk step
        obtain ⟨ao, cap, rfl, -, -, -⟩ := hoff.shape
        have hsz := x2.size
        have nbo : ∀ b, lob = some b → b < wr.heap.size := fun b e => (K1.out.bounds.2.1 b (hlob b e).1).2
        have nbg : ¬ lob = some gc := fun e => (hlob gc e).2 rfl
        have nbx : ¬ lob = some w2.heap.size := fun e => by have := nbo _ e; omega
        have XW := Lib.hid xw; have OFF := Lib.hid hoff; have HLK := Lib.hid hlk; have STEP := Lib.hid step; have HKO := Lib.hid hko; have XX := Lib.hid xX; have HLOB := Lib.hid hlob; have X2 := Lib.hid x2; have NBO := Lib.hid nbo; have C1 := Lib.hid c1
        clear ho2 hko x2 xX xw hoff hlk step d0 hlob nbo
        go_upto_region 10 with fail
        (try rw [hX])
        clear hX
        have u0 : X.cell? ⟨w2.heap.size, 0, none⟩ = some (.int .u8 (op : Int)) := blk_cell KX.out 0
        have u1 : X.cell? ⟨w2.heap.size, 1, none⟩ = some (.int .i64 (pol : Int)) := blk_cell KX.out 1
        have u2 : X.cell? ⟨w2.heap.size, 2, none⟩ = some (.slice Ak kl kc) := blk_cell KX.out 2
        have u3 : X.cell? ⟨w2.heap.size, 3, none⟩ = some (.int .i64 (num : Int)) := blk_cell KX.out 3
        go_upto_region 13 with fail
        refine wp_region_k (fun u => u.cell? ⟨gc, 1, none⟩ = some (.slice ao q cap) ∧ u.cell? ⟨w2.heap.size, 0, none⟩ = some (.int .u8 (op : Int)) ∧ u.cell? ⟨w2.heap.size, 1, none⟩ = some (.int .i64 (pol : Int)) ∧ u.cell? ⟨w2.heap.size, 2, none⟩ = some (.slice Ak kl kc) ∧ u.cell? ⟨w2.heap.size, 3, none⟩ = some (.int .i64 (num : Int))) [10] (by kernel_rfl) ?_
        have hHeld := And.intro (drew_cell c1) (And.intro (drew_cell u0) (And.intro (drew_cell u1) (And.intro (drew_cell u2) (drew_cell u3))))
        have XD : Ext X X.drew := (Ext.refl X).drew
        clear u0 u1 u2 u3 c1
        generalize X.drew = U at XD hHeld ⊢
        refine wpAnyK_free (i := 0) (oi := _) (v := ?_) rfl (by kernel_rfl) (by kernel_rfl) (by kernel_rfl) (by kernel_rfl) (fun _ _ _ h => h) (Or.inl ⟨by rfl, ?_⟩) (HeldT.of hHeld) ?_
        rotate_left
        · intro w _; go_simp
          (try with_reducible rfl)
        (try simp only [Act.put])
        refine wpAnyK_free (i := 1) (oi := _) (v := ?_) rfl (by kernel_rfl) (by kernel_rfl) (by kernel_rfl) (by kernel_rfl) (fun _ _ _ h => h) (Or.inl ⟨by rfl, ?_⟩) (HeldT.of hHeld) ?_
        rotate_left
        · intro w _; go_simp
          (try with_reducible rfl)
        (try simp only [Act.put])
        refine wpAnyK_free (i := 2) (oi := _) (v := ?_) rfl (by kernel_rfl) (by kernel_rfl) (by kernel_rfl) (by kernel_rfl) (fun _ _ _ h => h) (Or.inl ⟨by rfl, ?_⟩) (HeldT.of hHeld) ?_
        rotate_left
        · intro w _; go_simp
          (try with_reducible rfl)
        (try simp only [Act.put])
        refine wpAnyK_free (i := 3) (oi := _) (v := ?_) rfl (by kernel_rfl) (by kernel_rfl) (by kernel_rfl) (by kernel_rfl) (fun _ _ _ h => h) (Or.inl ⟨by rfl, ?_⟩) (HeldT.of hHeld) ?_
        rotate_left
        · intro w _; go_simp
          (try with_reducible rfl)
        (try simp only [Act.put])
        refine wpAnyK_take 20 (i := 4) (oi := _) (v := ?_) rfl (by kernel_rfl) (by kernel_rfl) (by kernel_rfl) (by kernel_rfl) (by kernel_rfl) (fun _ _ _ h => h) (Or.inl ⟨by rfl, ?_⟩) (by assumption) ?_
        rotate_left
        · intro w hSw; (try dsimp only at hSw); go_simp
          (try with_reducible rfl)
        (try simp only [Act.put])
        refine wpAnyK_take 20 (i := 5) (oi := _) (v := ?_) rfl (by kernel_rfl) (by kernel_rfl) (by kernel_rfl) (by kernel_rfl) (by kernel_rfl) (fun _ _ _ h => h) (Or.inl ⟨by rfl, ?_⟩) (by assumption) ?_
        rotate_left
        · intro w hSw; (try dsimp only at hSw); go_simp
          (try with_reducible rfl)
        (try simp only [Act.put])
        refine wpAnyK_ready (rs := [6]) (by kernel_rfl) (by simp) (AllReadyK.cons (o := _) rfl (fun K' hK => ?_) AllReadyK.nil)
        have q1 := hHeld.1
        have u0 := hHeld.2.1
        have u1 := hHeld.2.2.1
        have u2 := hHeld.2.2.2.1
        have u3 := hHeld.2.2.2.2
        go_simp
        have yU : Ext U (U.alloc (.cells #[.int .u8 (op : Int), .int .i64 (pol : Int), .slice Ak kl kc, .int .i64 (num : Int)] 63)) := (Ext.refl U).alloc _
        have yX := XD.trans yU
        refine hK.out _ _ ⟨ext_cell yU q1, ext_cell yU u0, ext_cell yU u1, ext_cell yU u2, ext_cell yU u3⟩ ?_
        clear hK K'
        (try simp only [Act.put])
        have d1 := ext_cell yU q1; have e0 := ext_cell yU u0; have e1 := ext_cell yU u1; have e2 := ext_cell yU u2; have e3 := ext_cell yU u3
        have f1Y := frz_ext2 yX C1.out f1
        have nx := blk_new U (.cells #[.int .u8 (op : Int), .int .i64 (pol : Int), .slice Ak kl kc, .int .i64 (num : Int)] 63)
        have NX := Lib.hid (show ∀ j u, [Value.int .u8 (op : Int), .int .i64 (pol : Int), .slice Ak kl kc, .int .i64 (num : Int)][j]? = some u → (U.alloc (.cells #[.int .u8 (op : Int), .int .i64 (pol : Int), .slice Ak kl kc, .int .i64 (num : Int)] 63)).cell? ((⟨U.heap.size, 0, none⟩ : Addr).add j) = some u from fun j u hu => by
          rw [Addr.add_lit, Nat.zero_add]
          exact (blk_cell nx j).trans (by rw [← hu]; simp))
        clear nx q1 u0 u1 u2 u3
        refine wpAnyK_ready (rs := [7]) (by kernel_rfl) (by simp) (AllReadyK.cons (o := _) rfl (fun K' hK => ?_) AllReadyK.nil)
        refine step_app_call (U.alloc (.cells #[.int .u8 (op : Int), .int .i64 (pol : Int), .slice Ak kl kc, .int .i64 (num : Int)] 63)) rfl (.tmp 55) (.tmp 57) rfl (by rfl) (OFF.out.ext yX) hlk_ (by rfl) rfl NX.out (fun u hu => by simp at hu; rcases hu with rfl | rfl | rfl | rfl <;> rfl) ?_
        intro v' w6 ob' o6 g6 b6
        obtain ⟨va, vc, rfl, -, -, -⟩ := o6.shape
        have q1 := g6.cell d1 nbg; have u0 := g6.cell e0 nbx; have u1 := g6.cell e1 nbx; have u2 := g6.cell e2 nbx; have u3 := g6.cell e3 nbx
        have F1 := frz_gb g6 d1 f1Y nbg
        have O6 := Lib.hid o6; have G6 := Lib.hid g6; have B6 := Lib.hid b6
        clear o6 g6 b6
        refine hK.out _ _ ⟨q1, u0, u1, u2, u3⟩ ?_
        clear hK K'
        (try simp only [Act.put])
        refine wpAnyK_ready (rs := [8]) (by kernel_rfl) (by simp) (AllReadyK.cons (o := _) rfl (fun K' hK => ?_) AllReadyK.nil)
        go_simp
        refine hK.out _ _ ⟨q1, u0, u1, u2, u3⟩ ?_
        clear hK K'
        (try simp only [Act.put])
        refine wpAnyK_ready (rs := [9]) (by kernel_rfl) (by simp) (AllReadyK.cons (o := _) rfl (fun K' hK => ?_) AllReadyK.nil)
        go_simp
        refine hK.out _ _ ⟨q1, u0, u1, u2, u3⟩ ?_
        clear hK K'
        (try simp only [Act.put])
        refine wpAnyK_ready (rs := [10]) (by kernel_rfl) (by simp) (AllReadyK.last (o := _) (by kernel_rfl) rfl (fun K' hK => ?_) AllReadyK.nil)
        go_simp
        refine hK.out _ _ ?_
        clear hK K'
        (try simp only [Act.put])
        refine wpAnyK_done (by kernel_rfl) ?_ _
        have e1r := readL_snoc ys s.line _ HB.out
        rw [← HT.out, HD.out] at e1r
        dsimp only at e1r
        have RD := Lib.hid e1r
        clear e1r
        go_wp2_with fail
        go_roundw
        case rel =>
          have gX6 : GB X w6 (fun b => lob = some b) := ((GB.refl X _).ext yX).trans G6.out (fun b e => .inl e)
          have hkey : Rd w6 Ak (vals .u8 key) := gX6.rd ((Rd.of_own HKO.out).ext XX.out) (fun a e e2 => by have := (HKO.out.lt a.block (by rw [e]; rfl)).1; have := NBO.out _ e2; omega)
          obtain ⟨m1, m2, m3⟩ := STEP.out w6 (.slice va (q + 1) vc) ob' Ak kc ⟨op, pol, key, num⟩ (by show OffS _ _ _ _ _ (_ ++ [_, _, Value.slice _ key.length _, _]); rw [Hkl.out]; exact O6.out) gX6 (fun b e => by
            rcases B6.out with h9 | h9
            · exact .inl (h9 ▸ e)
            · rw [h9] at e
              injection e with e
              exact .inr (by rw [← e]; exact yX.size)) (by dsimp only; rw [Hkl.out]; exact own_cap HKO.out) hkey (fun a e => by
            have hl9 := HKO.out.lt a.block (by rw [e]; rfl)
            have hB := K1.out.bounds
            refine ⟨fun e2 => by have := (hB.2.1 _ e2).2; omega, ?_, Nat.lt_of_lt_of_le hl9.2 XX.out.size⟩
            have := hB.2.1 gc hB.1
            omega)
          refine ⟨k + 1, hlt, by go_num, by rw [RD.out], conn_go_then K2.out K3.out K4.out ⟨_, _, ?_, GB.back XW.out m2, fun b e => (m3 b e).imp id (fun e => Nat.le_trans XW.out.size e), fun b e => (show RO2 b ∨ ∃ a, Ak = some a ∧ a.block = b from e).imp id ?_⟩⟩
          · rw [RD.out]
            exact m1
          · rintro ⟨a, ea, eb⟩
            have := (HKO.out.lt a.block (by rw [ea]; rfl)).1
            exact .inr (by omega)
        case measure => simp [intOf]; omega
    · obtain rfl : k = n1 := by omega
      have HB := Lib.hid hbad; have HGO := Lib.hid hgo
      rw [List.take_of_length_le (by rw [HN1.out]; exact Nat.le_refl _)] at HB HGO
      clear hbad hgo
      obtain ⟨L2, RO2, k1, k2, k3, k4⟩ := HGO.out
      obtain ⟨-, -, -, -, d2, -, -, fz, -⟩ := k1.cells
      have f2 := fz 2
      clear k1 k2 k3 k4 fz
      go_wp2_with fail
      go_ret
      refine ⟨rfl, ?_⟩
      refine conn_go_then G1.out (fun b e => .inl e) (fun b e => e.elim .inl (fun e => .inr (.inr e.1))) (ConnGo.trans HGO.out fun L1 RO1 k1 => ?_)
      have SF := k1.setFin en
      refine ⟨L1, RO1, ?_, SF.2, fun b e => .inl e, fun b e => .inl e⟩
      unfold fedS
      rw [if_neg (by rw [HB.out]; exact Bool.false_ne_true), Hen.out.2]
      exact SF.1

set_option maxHeartbeats 2000000 in
set_option maxRecDepth 100000 in
theorem toksSame_true (w : World) (A B : Option Addr) (n c d : Nat) (l : List CTok) (ks ks' : List KRef) (hl : l.length = n) (hn : n ≤ 9223372036854775807) (hb : ∀ t ∈ l, t.key.length ≤ 9223372036854775807 ∧ ∀ x ∈ t.key, x < 256) (hA : TokRd w A l ks) (hB : TokRd w B l ks') :
    Calls Try.prog 56 #[.slice A n c, .slice B n d] w (RetQ (.bool true) w) := by
  have Hl := Lib.hid hl; have HA := Lib.hid hA; have HB := Lib.hid hB; have Hb := Lib.hid hb; clear hl hA hB hb
  go_enter Try.func56, Try.ntmps56
  go_wp2_with fail
  go_loopw [13] (fun i wr => ∃ k q : Nat, k ≤ n ∧ i = .int .i64 k ∧ wr = w.drewN q) (fun i _ => n - (intOf i).toNat)
  case atStart => exact ⟨0, 0, Nat.zero_le _, rfl, rfl⟩
  case round =>
    obtain ⟨k, q, hk, rfl, rfl⟩ := hrel
    by_cases hlt : k < n
    · obtain ⟨t, ht⟩ : ∃ t, l[k]? = some t := ⟨_, List.getElem?_eq_getElem (by rw [Hl.out]; exact hlt)⟩
      have hbp := Hb.out t (List.mem_of_getElem? ht)
      obtain ⟨b, off, K, kc, hA, -, a0, a1, a2, -, hr⟩ := HA.out.at_ ht
      obtain ⟨b', off', K', kc', hB, -, b0, b1, b2, -, hr'⟩ := HB.out.at_ ht
      obtain ⟨p, key, s⟩ := t
      dsimp only at hbp a0 a1 a2 b0 b1 b2 hr hr'
      have C := Lib.hid (fun q => same_any K K' key.length kc key.length kc' key key (w.drewN q) rfl rfl hbp.1 hbp.2 hbp.2 hr hr')
      rw [show same key key = true from decide_eq_true rfl] at C
      clear hr hr' ht hbp
      subst hA hB
      go_wp2_with fail
      go_quiet ((go_at_call 20; first | exact quiet_add_q (C.out _) | exact quiet_q (C.out _)))
      go_wp2_with fail
      go_roundw
      case rel => exact ⟨k + 1, _, by omega, by go_num, by first | rfl | (simp only [drewN_add]; rfl)⟩
      case measure => simp [intOf]; omega
    · go_wp2_with fail
      go_ret
      exact ⟨rfl, q, rfl⟩
theorem reqB_pos' (op p N : Nat) (xs : List Nat) : 1 ≤ (reqB op p xs N).length := by
  unfold reqB
  split
  · simp
  · split
    · simp
    · simp
theorem reqB_len' {op p N : Nat} {xs : List Nat} (h : xs.length ≤ 255) : (reqB op p xs N).length ≤ 1000 := by
  unfold reqB
  split
  · rw [List.length_cons, tokB_len]; omega
  · split
    · simp
    · simp only [List.length_cons, List.length_append]
      split
      · rw [wordB_len]; omega
      · simp; omega
/-- a right call as it is read -/
theorem norm_of {op P M : Nat} {xs : List Nat} (h : RightC op P xs M) (hb : ∀ x ∈ xs, x < 256) :
    ∃ c : CCall, NormC c.op c.pol c.key c.num ∧ reqB c.op c.pol c.key c.num = reqB op P xs M ∧ c.op = op ∧ (op < 5 → c.pol = P ∧ c.key = xs) ∧ (op = 1 ∨ op = 3 → c.num = M) := by
  obtain ⟨h1, h2, h3, h4, h5⟩ := h
  by_cases h56 : 5 ≤ op
  · refine ⟨⟨op, 0, [], 0⟩, ⟨⟨h1, h2, fun h => by dsimp only at h; omega, fun h => by dsimp only at h; omega, fun h => by dsimp only at h; omega⟩, (by simp), fun _ => ⟨rfl, rfl, rfl⟩, fun h => rfl⟩, ?_, rfl, fun h => by omega, fun h => by omega⟩
    dsimp only
    rw [reqB_56 (by omega), reqB_56 (by omega)]
  · by_cases h24 : op = 2 ∨ op = 4
    · refine ⟨⟨op, P, xs, 0⟩, ⟨⟨h1, h2, h3, fun h => by dsimp only at h; omega, fun h => by dsimp only at h; omega⟩, hb, fun h => by dsimp only at h; omega, fun _ => rfl⟩, ?_, rfl, fun _ => ⟨rfl, rfl⟩, fun h => by omega⟩
      rcases h24 with rfl | rfl
      · rw [reqB_2, reqB_2]
      · rw [reqB_4, reqB_4]
    · exact ⟨⟨op, P, xs, M⟩, ⟨⟨h1, h2, h3, h4, h5⟩, hb, fun h => by dsimp only at h; omega, fun h => absurd h h24⟩, rfl, rfl, fun _ => ⟨rfl, rfl⟩, fun _ => rfl⟩
/-- a request's frame, or nothing -/
def RetFr (F : Option (List Nat)) (w : World) (e : Ending) (w' : World) : Prop := match F with
  | none => e = .returned (.slice none 0 0) ∧ Ext w w'
  | some L => ∃ g c, e = .returned (.slice (some ⟨g, 0, none⟩) L.length c) ∧ w'.ownsRow w.heap.size 5 1 (.slice (some ⟨g, 0, none⟩) L.length c) L.length (vals .u8 L) ∧ Ext w w'
/-- what a call's frame is: c is the call as it is read -/
def FrOf (op : Nat) (p : Int) (xs : List Nat) (N : Int) (F : Option (List Nat)) : Prop :=
  (F = none ∧ ∀ P M : Nat, (op < 5 → p = (P : Int)) → (op = 1 ∨ op = 3 → N = (M : Int)) → ¬ RightC op P xs M) ∨
    ∃ P M : Nat, (op < 5 → p = (P : Int)) ∧ (op = 1 ∨ op = 3 → N = (M : Int)) ∧ RightC op P xs M ∧ F = some (len4 (reqB op P xs M).length ++ reqB op P xs M)
set_option maxHeartbeats 2000000 in
set_option maxRecDepth 100000 in
theorem crequest_any (op : Nat) (hop : op < 256) (p N : Int) (n : Nat) (xs : List Nat) (hl : xs.length = n) (hb : ∀ x ∈ xs, x < 256) :
    ∃ F, FrOf op p xs N F ∧ (∀ L, F = some L → L.length ≤ 1010 ∧ ∀ x ∈ L, x < 256) ∧ ∀ A c w, Rd w A (vals .u8 xs) → Calls Try.prog 47 #[callV (op : Int) p A n c N] w (RetFr F w) := by
  obtain ⟨q, L, hq, hc, -⟩ := req_cases op hop p N n xs hl hb
  rcases hq with ⟨hq0, rfl, hno⟩ | ⟨rfl, P, M, h1, h2, h3, rfl⟩
  · have hq' : (q != 0) = true := by simp [bne, hq0]
    refine ⟨none, .inl ⟨rfl, fun P M e1 e2 e3 => hno ⟨P, M, e1, e2, e3⟩⟩, (fun L e => by cases e), fun A c w hr => ?_⟩
    have C := Lib.hid (hc A c _ (hr.ext ((Ext.refl w).alloc (.cells #[.int .u8 (op : Int), .int .i64 p, .slice A n c, .int .i64 N] 63))))
    clear hc hno hb hl hr hq0
    go_enter Try.func47, Try.ntmps47
    go_wp2_with fail
    refine C.out.mono ?_
    rintro e w1 ⟨A1, c1, rfl, o1, x1⟩
    clear o1
    go_wp2_with fail
    go_ret
    exact ⟨rfl, ((Ext.refl w).alloc _).trans x1⟩
  · have hx : xs.length ≤ 255 ∨ 5 ≤ op := by have := h3.2.2.1; omega
    have hlen : (reqB op P xs M).length ≤ 1000 := by
      rcases hx with hx | hx
      · exact reqB_len' hx
      · rw [reqB_56 (by have := h3.2.1; omega)]; simp
    have hpos := reqB_pos' op P M xs
    have hlt := reqB_lt h3 hb
    obtain ⟨R, HR⟩ : ∃ R, Hid (reqB op P xs M = R) := ⟨_, rfl⟩
    rw [HR.out] at hc hlen hpos hlt
    obtain ⟨m, Hm⟩ : ∃ m, Hid (R.length = m) := ⟨_, rfl⟩
    rw [Hm.out] at hlen hpos
    refine ⟨some (len4 m ++ R), .inr ⟨P, M, h1, h2, h3, by rw [HR.out, Hm.out]⟩, fun L e => ?_, fun A c w hr => ?_⟩
    · injection e with e
      subst e
      refine ⟨by rw [List.length_append, Hm.out]; simp [len4]; omega, fun x hx => ?_⟩
      rcases List.mem_append.1 hx with hx | hx
      · simp [len4] at hx
        omega
      · exact hlt x hx
    · have C := Lib.hid (hc A c _ (hr.ext ((Ext.refl w).alloc (.cells #[.int .u8 (op : Int), .int .i64 p, .slice A n c, .int .i64 N] 63))))
      clear hc h1 h2 h3 hr hb hl hlt hx
      go_enter Try.func47, Try.ntmps47
      go_wp2_with fail
      refine C.out.mono ?_
      rintro e w1 ⟨A1, c1, rfl, o1, x1⟩
      rw [Hm.out] at o1 ⊢
      have O1 := Lib.hid o1
      have X1 := Lib.hid (((Ext.refl w).alloc (.cells #[.int .u8 (op : Int), .int .i64 p, .slice A n c, .int .i64 N] 63)).trans x1)
      clear o1 x1
      go_wp2_with fail
      refine (frEncode_ok w1 A1 m c1 R (by omega) hpos Hm.out (Rd.of_own O1.out)).mono ?_
      rintro e w2 ⟨A2, c2, rfl, o2, x2⟩
      have O2 := Lib.hid o2; have X2 := Lib.hid (X1.out.trans x2)
      obtain ⟨g, rfl, -, -⟩ := own_some_s o2 (by have := own_cap o2; rw [List.length_append] at this; simp [len4] at this; omega)
      obtain ⟨fn, Hfn⟩ : ∃ fn, Hid ((len4 m ++ R).length = fn) := ⟨_, rfl⟩
      rw [Hfn.out]
      clear o2 x2
      go_wp2_with fail
      go_ret
      exact ⟨g, c2, by rw [Hfn.out]; rfl, own_base O2.out X1.out.size, X2.out⟩

theorem cinv_init : CInv cInit := ⟨(fun x h => by cases h), (fun c h => by cases h), (fun c h => by cases h), (fun x h => by cases h), (fun t h => by cases h)⟩
theorem readL_norm : ∀ (l : List CCall) (xs : List (List Nat)), (∀ c ∈ l, NormC c.op c.pol c.key c.num) → ∀ c ∈ (readL l xs).1, NormC c.op c.pol c.key c.num
  | l, [], h => h
  | l, x :: xs, h => by
    unfold readL
    cases hx : decC x with
    | none => exact h
    | some c =>
      refine readL_norm (l ++ [c]) xs fun d hd => ?_
      rcases List.mem_append.1 hd with hd | hd
      · exact h d hd
      · rw [List.mem_singleton.1 hd]; exact (decC_some hx).1
theorem cinv_fed {s : CSt} (h : CInv s) {xs : List Nat} (hb : ∀ x ∈ xs, x < 256) : CInv (fedS s (s.ws ++ xs)) := by
  obtain ⟨h1, h2, h3, h4, h5⟩ := h
  refine ⟨fun x hx => ?_, readL_norm s.line _ h2, h3, h4, h5⟩
  exact (List.mem_append.1 ((leftF_small _).2 x hx)).elim (h1 x) (hb x)
theorem cinv_next {s : CSt} (h : CInv s) {c : CCall} {rest : List CCall} (hl : s.line = c :: rest) : CInv { s with line := rest, out := some c } := by
  obtain ⟨h1, h2, h3, h4, h5⟩ := h
  refine ⟨h1, fun d hd => h2 d (by rw [hl]; exact List.mem_cons_of_mem _ hd), fun d hd => ?_, h4, h5⟩
  injection hd with hd
  rw [← hd]
  exact h2 c (by rw [hl]; exact List.mem_cons_self)
theorem words_lt (ns : List Nat) : ∀ x ∈ words ns, x < 256 := fun x hx => by
  obtain ⟨n, _, h⟩ := List.mem_flatMap.1 hx
  exact wordB_lt n 8 x h
theorem rep_lt {e : Int} {g : Bool} {N : List Int} {q : Int} {B : List Nat} (h : RepIs e g N q B) : ∀ x ∈ B, x < 256 := fun x hx => by
  rcases h with ⟨_, h, _⟩ | ⟨_, h1, h2, ns, _, h⟩
  · rw [h] at hx; cases hx
  · rw [h] at hx
    rcases List.mem_cons.1 hx with hx | hx
    · omega
    · rcases List.mem_cons.1 hx with hx | hx
      · rw [hx]; cases g <;> simp [oneIf]
      · exact words_lt ns x hx
theorem rep_len {e : Int} {g : Bool} {N : List Int} {B : List Nat} (h : RepIs e g N 0 B) : B.length = 34 := by
  rcases h with ⟨h, _⟩ | ⟨_, h1, h2, ns, h3, h⟩
  · cases h
  · rw [h, repB_len, h3.1]
/-- right replies are taken, others are not -/
theorem rep_ok {e : Int} {g : Bool} {N : List Int} {q : Int} {B : List Nat} (h : RepIs e g N q B) (he : 0 ≤ e ∧ e ≤ 16) (hN : ∀ x ∈ N, okN x) : q = 0 := by
  rcases h with ⟨_, _, h⟩ | ⟨h, _⟩
  · exact absurd ⟨he.1, he.2, hN⟩ h
  · exact h
/-- a reply has one form -/
theorem rep_one {e : Int} {g : Bool} {N : List Int} (hN : N.length = 4) {q q' : Int} {B B' : List Nat} (h : RepIs e g N q B) (h' : RepIs e g N q' B') : q = q' ∧ B = B' := by
  have key : ∀ {ns : List Nat}, HeadOk N 4 ns → ∀ x ∈ N, okN x := fun {ns} h x hx => by
    obtain ⟨h1, h2, h3⟩ := h
    rw [List.take_of_length_le (by rw [hN]; exact Nat.le_refl _)] at h2
    rw [← h2] at hx
    obtain ⟨y, hy, rfl⟩ := List.mem_map.1 hx
    have := h3 y hy
    unfold okN
    omega
  rcases h with ⟨h1, h2, h3⟩ | ⟨h1, h2, h3, ns, h4, h5⟩
  · rcases h' with ⟨k1, k2, k3⟩ | ⟨k1, k2, k3, ns', k4, k5⟩
    · exact ⟨by rw [h1, k1], by rw [h2, k2]⟩
    · exact absurd ⟨k2, k3, key k4⟩ h3
  · rcases h' with ⟨k1, k2, k3⟩ | ⟨k1, k2, k3, ns', k4, k5⟩
    · exact absurd ⟨h2, h3, key h4⟩ k3
    · refine ⟨by rw [h1, k1], ?_⟩
      have e1 : ns = ns' := by
        have e2 := h4.2.1.trans k4.2.1.symm
        exact (List.map_inj_right (fun x y e => Int.ofNat.inj e)).1 e2
      rw [h5, k5, e1]
theorem cinv_wrote {s : CSt} (h : CInv s) (q : Int) {B : List Nat} (hB : ∀ x ∈ B, x < 256) : CInv (wrote s q B) := by
  obtain ⟨h1, h2, h3, h4, h5⟩ := h
  unfold wrote
  split
  · refine ⟨h1, h2, h3, fun x hx => ?_, h5⟩
    rcases List.mem_append.1 hx with hx | hx
    · exact h4 x hx
    · exact (List.mem_append.1 hx).elim (len4_lt _ x) (hB x)
  · exact ⟨h1, h2, h3, h4, h5⟩
theorem cinv_replied {s : CSt} (h : CInv s) {c : CCall} (ho : s.out = some c) (e sn : Int) {B : List Nat} (hB : ∀ x ∈ B, x < 256) : CInv (repliedS s c e sn B) := by
  have hc := (h.2.2.1 c ho).2.1
  have hl := h.2.2.2.2
  obtain ⟨h1, h2, h3, h4, h5⟩ := cinv_wrote h 0 hB
  rw [wrote_led] at h5
  unfold repliedS
  split
  · split
    · refine ⟨h1, h2, (fun d hd => by cases hd), h4, fun t ht => ?_⟩
      rcases List.mem_append.1 ht with ht | ht
      · exact hl t ht
      · rw [List.mem_singleton.1 ht]; exact hc
    · split
      · refine ⟨h1, h2, (fun d hd => by cases hd), h4, fun t ht => ?_⟩
        dsimp only at ht
        split at ht
        · exact hl t ht
        · exact hl t (List.mem_of_mem_eraseIdx ht)
      · exact ⟨h1, h2, (fun d hd => by cases hd), h4, by dsimp only; rw [wrote_led]; exact hl⟩
  · exact ⟨h1, h2, (fun d hd => by cases hd), h4, by dsimp only; rw [wrote_led]; exact hl⟩
theorem cinv_take {s : CSt} (h : CInv s) : CInv { s with wr := [] } := ⟨h.1, h.2.1, h.2.2.1, (fun x hx => by cases hx), h.2.2.2.2⟩
theorem cinv_hang {s : CSt} (h : CInv s) : CInv (hangS s) := ⟨h.1, (fun x hx => by cases hx), h.2.2.1, h.2.2.2.1, h.2.2.2.2⟩
/-- one frame comes, whole -/
theorem fed_one {s : CSt} (hw : s.ws = []) (hcl : s.cl = false) (hf : s.fin = 0) {R : List Nat} {c : CCall} (h1 : 1 ≤ R.length) (h2 : R.length ≤ 4096) (hd : decC R = some c) : fedS s (s.ws ++ (len4 R.length ++ R)) = { s with line := s.line ++ [c] } := by
  have hp := parse_enc R [] h1 h2
  rw [List.append_nil, parse_nil] at hp
  rw [hw, List.nil_append]
  obtain ⟨ws, cl, line, fin, out, wr, led, closed, hung⟩ := s
  dsimp only at hw hcl hf ⊢
  subst hw hcl hf
  unfold fedS leftF finF
  rw [hp]
  dsimp only
  simp [readL, hd]

def cA : CCall := ⟨2, 1, [107], 0⟩
theorem normA : NormC cA.op cA.pol cA.key cA.num := ⟨⟨by decide, by decide, fun _ => ⟨by decide, by decide⟩, (fun h => by cases h), (fun h => by cases h)⟩, by decide, (fun h => absurd h (by decide)), fun _ => rfl⟩
/-- request of a right call of the second kind -/
theorem crequest_acq (P : Nat) (hP : P < 32) (xs : List Nat) (n : Nat) (hl : xs.length = n) (hn : n ≤ 255) (hb : ∀ x ∈ xs, x < 256) (A : Option Addr) (c : Nat) (w : World) (hr : Rd w A (vals .u8 xs)) :
    Calls Try.prog 47 #[callV 2 (P : Int) A n c 0] w (RetFr (some (len4 (n + 3) ++ (2 :: P :: n :: xs))) w) := by
  obtain ⟨F, hF, -, hC⟩ := crequest_any 2 (by omega) (P : Int) 0 n xs hl hb
  have hFe : F = some (len4 (n + 3) ++ (2 :: P :: n :: xs)) := by
    rcases hF with ⟨_, h⟩ | ⟨P', M, h1, h2, h3, h4⟩
    · exact absurd ⟨by omega, by omega, fun _ => ⟨hP, by omega⟩, fun h => by omega, fun h => by omega⟩ (h P 0 (fun _ => rfl) (fun h => by omega))
    · obtain rfl : P = P' := by have := h1 (by omega); omega
      rw [h4, reqB_2, hl]
      simp only [List.length_cons, hl]
  rw [hFe] at hC
  exact hC A c w hr
theorem tokRd_one {w : World} {A K : Option Addr} {c : Nat} {key : List Nat} {p s : Int} (h : Rd w A [.int .i64 p, .slice K key.length c, .int .i64 s]) (hk : key.length ≤ c) (hr : Rd w K (vals .u8 key)) : TokRd w A [⟨p, key, s⟩] [(K, c)] :=
  ⟨rfl, h, fun q hq => by
    rw [List.mem_singleton.1 (show q ∈ [((K, c), (⟨p, key, s⟩ : CTok))] from hq)]
    exact ⟨hk, hr⟩⟩
theorem wrote_wr (s : CSt) (B : List Nat) (h : s.hung = false) : (wrote s 0 B).wr = s.wr ++ (len4 B.length ++ B) := by unfold wrote; rw [if_pos ⟨rfl, h⟩]
theorem replied_acq {s : CSt} {c : CCall} {sn : Int} {B : List Nat} (hh : s.hung = false) (hc : c.op = 2) : repliedS s c 0 sn B = { s with wr := s.wr ++ (len4 B.length ++ B), out := none, led := s.led ++ [⟨(c.pol : Int), c.key, sn⟩] } := by
  unfold repliedS wrote
  rw [if_pos rfl, if_pos hc, if_pos ⟨rfl, hh⟩]
set_option maxHeartbeats 8000000 in
set_option maxRecDepth 100000 in
theorem cawake (w : World) : Calls Try.prog 46 #[] w (RetTrue w) := by
  go_enter Try.func46, Try.ntmps46
  go_wp2_with fail
  refine (cnew_any w).mono ?_
  rintro e w1 ⟨gc, r, L1, RO1, rfl, h1, x1⟩
  have H1 := Lib.hid h1; have X1 := Lib.hid x1
  clear h1 x1
  have kc := Lib.run_convert_bytes_const (P := Try.prog) w1 28 5 #[.int .u8 107] 1 1 Try.underlying28 Try.underlying5
  go_wp2_with fail
  refine (crequest_acq 1 (by omega) [107] 1 rfl (by omega) (by decide) _ 1 _ (rd_mark w1 [.int .u8 107] _ _)).mono ?_
  rintro e w2 ⟨g2, c2, rfl, o2, x2⟩
  have O2 := Lib.hid o2
  have X2 := Lib.hid (((Ext.refl w1).alloc _).trans x2)
  clear o2 x2 kc
  have hd : decC [2, 1, 1, 107] = some cA := decC_of normA
  have hfs : fedS cInit (cInit.ws ++ (len4 [2, 1, 1, 107].length ++ [2, 1, 1, 107])) = { cInit with line := [cA] } := fed_one (s := cInit) rfl rfl rfl (by decide) (by decide) hd
  have HFS := Lib.hid hfs
  have FD := Lib.hid (cfeed_open w2 w.heap.size gc r L1 RO1 cInit (H1.out.ext X2.out) cinv_init rfl rfl rfl (some ⟨g2, 0, none⟩) 8 c2 (len4 (1 + 3) ++ [2, 1, 1, 107]) rfl (by decide) (Rd.of_own O2.out) (by decide) (by decide))
  clear hd hfs
  go_wp2_with fail
  refine FD.out.mono ?_
  rintro e w3 ⟨rfl, hg3⟩
  obtain ⟨L3, RO3, h3, g3, k3, -⟩ := ConnGo.back X2.out hg3
  have h3' : ConnAt w3 w.heap.size L3 RO3 gc r { cInit with line := [cA] } := by rw [← HFS.out]; exact h3
  have e3 : Ext w w3 := GB.to_ext g3 X1.out (fun i hi => (H1.out.bounds.2.1 i hi).1)
  have E3 := Lib.hid e3
  have HB3 := Lib.hid (fun i hi => (h3'.bounds.2.1 i hi).1)
  have NX := Lib.hid (cnext_call w3 w.heap.size gc r L3 RO3 _ h3' rfl rfl cA [] rfl (by decide))
  clear hg3 h3 g3 k3 h3' e3
  go_wp2_with fail
  refine NX.out.mono ?_
  rintro e w4 ⟨v, rfl, ⟨Ak, kk, hv⟩, hg4⟩
  replace hv : v = .agg #[.int .u8 2, .int .i64 1, .slice Ak 1 kk, .int .i64 0] := hv
  subst hv
  obtain ⟨L4, RO4, h4, g4, k4, -⟩ := hg4
  have E4 := Lib.hid (GB.to_ext g4 E3.out HB3.out)
  have H4 := Lib.hid h4; clear h4 g4 k4
  go_upto_region 5 with fail
  obtain ⟨W5, hW5⟩ : ∃ W5, w4.alloc (.cells #[.int .u8 2, .int .i64 1, .slice Ak 1 kk, .int .i64 0] 63) = W5 := ⟨_, rfl⟩
  have x5 : Ext w4 W5 := by rw [← hW5]; exact (Ext.refl w4).alloc _
  have B4 := Lib.hid (show W5.heap[w4.heap.size]? = some (.cells #[.int .u8 2, .int .i64 1, .slice Ak 1 kk, .int .i64 0] 63 (0, 0)) by rw [← hW5]; exact blk_new w4 _)
  have X5 := Lib.hid x5
  have NB := Lib.hid (cnext_busy W5 w.heap.size gc r L4 RO4 _ (H4.out.ext x5) cA rfl)
  clear x5
  (try rw [hW5])
  clear hW5
  go_wp2_with fail
  refine NB.out.mono ?_
  rintro e w6 ⟨rfl, x6⟩
  have X6 := Lib.hid x6
  clear x6
  go_upto_region 6 with fail
  obtain ⟨W7, hW7⟩ : ∃ W7, w6.alloc (.cells #[.int .u8 0, .int .i64 0, .slice none 0 0, .int .i64 0] 63) = W7 := ⟨_, rfl⟩
  have X7 := Lib.hid (show Ext W5 W7 from X6.out.trans (by rw [← hW7]; exact (Ext.refl w6).alloc _))
  have RP := Lib.hid (creply_call W7 w.heap.size gc r L4 RO4 _ (H4.out.ext (X5.out.trans X7.out)) (cinv_next (s := { cInit with line := [cA] }) ⟨(fun x h => by cases h), (fun c h => by rw [List.mem_singleton.1 h]; exact normA), (fun c h => by cases h), (fun x h => by cases h), (fun t h => by cases h)⟩ rfl) (by decide) (by decide) cA rfl 0 (by omega) true 1 0 5 0)
  (try rw [hW7])
  clear hW7
  go_wp2_with fail
  refine RP.out.mono ?_
  rintro e w8 ⟨q, B, hri, rfl, hgo⟩
  obtain rfl : q = 0 := rep_ok hri (by decide) (by intro x hx; simp at hx; unfold okN; omega)
  have hBl := rep_len hri
  rw [if_pos rfl] at hgo
  have hs6 := replied_acq (s := { cInit with out := some cA }) (c := cA) (sn := 5) (B := B) rfl rfl
  obtain ⟨L8, RO8, h8, g8, -, -⟩ := hgo
  obtain ⟨s6, Hs6⟩ : ∃ s6, Hid (repliedS { cInit with out := some cA } cA 0 5 B = s6) := ⟨_, rfl⟩
  have h8' : ConnAt w8 w.heap.size L8 RO8 gc r s6 := by rw [← Hs6.out]; exact h8
  have hwr : s6.wr.length = 38 := by rw [← Hs6.out, hs6]; simp [cInit, hBl, len4]
  have hled : s6.led = [⟨1, [107], 5⟩] := by rw [← Hs6.out, hs6]; rfl
  have b8 := g8.blk (blk_ext B4.out X7.out) (fun e => Nat.lt_irrefl _ (H4.out.bounds.2.1 _ e).2)
  have E8 := Lib.hid (GB.to_ext g8 (E4.out.trans (X5.out.trans X7.out)) (fun i hi => (H4.out.bounds.2.1 i hi).1))
  have z0 : w8.cell? ⟨w4.heap.size, 0, none⟩ = some (.int .u8 2) := blk_cell b8 0
  have TK := Lib.hid (ctake_any w8 w.heap.size gc r L8 RO8 s6 h8')
  have HG := Lib.hid (h8'.bounds.2.1 gc h8'.bounds.1).1
  have Hwr := Lib.hid hwr; have Hled := Lib.hid hled
  clear hri hBl hs6 h8 g8 h8' hwr hled b8
  go_wp2_with fail
  refine TK.out.mono ?_
  rintro e w9 ⟨WA, wc, L9, rfl, h9, g9, -⟩
  rw [Hwr.out]
  have LD := Lib.hid (cledger_any w9 w.heap.size gc r L9 RO8 _ h9 (by show s6.led.length ≤ _; rw [Hled.out]; decide) (by show ∀ t ∈ s6.led, _; rw [Hled.out]; decide))
  have E9 := Lib.hid (GB.to_ext g9 E8.out (fun i hi => by rw [hi]; exact HG.out))
  rw [show CSt.led { s6 with wr := [] } = s6.led from rfl, Hled.out] at LD
  clear h9 g9 z0
  go_wp2_with fail
  refine LD.out.mono ?_
  rintro e w10 ⟨LA, lc, ks, rfl, hN, x10⟩
  have HN := Lib.hid hN; have X10 := Lib.hid (E9.out.trans x10)
  clear hN x10
  have kc := Lib.run_convert_bytes_const (P := Try.prog) w10 28 5 #[.int .u8 107] 1 1 Try.underlying28 Try.underlying5
  go_wp2_with fail
  have xk := ((Ext.refl w10).alloc (.cells #[.int .u8 107] 5 (1, 2))).alloc (.cells #[.int .i64 1, .slice (some ⟨w10.heap.size, 0, none⟩) 1 1, .int .i64 5] 53)
  refine (toE_q (toksSame_true _ LA _ 1 lc 1 [⟨1, [107], 5⟩] ks [(some ⟨w10.heap.size, 0, none⟩, 1)] rfl (by decide) (by decide) (HN.out.rd.ext xk) (tokRd_one (rd_newk _ [.int .i64 1, .slice (some ⟨w10.heap.size, 0, none⟩) 1 1, .int .i64 5] _ (by simp)) (by decide) ((rd_mark w10 [.int .u8 107] _ _).alloc _)))).mono ?_
  rintro e w11 ⟨rfl, x11⟩
  clear kc
  go_wp2_with fail
  go_ret
  exact retTrue (X10.out.trans (xk.trans x11))

/-- a connection; F are blocks of others -/
def ConnIn (w : World) (base gc r : Nat) (s : CSt) (F : List Nat) : Prop := ∃ L RO, ConnAt w base L RO gc r s ∧ ∀ b ∈ F, some b ∉ L ∧ ¬ RO b ∧ b < w.heap.size
/-- only its own blocks were written -/
def Gone (w w' : World) (base : Nat) (F : List Nat) : Prop := GB w w' (fun b => base ≤ b ∧ b ∉ F)
theorem Gone.ext {w w1 w2 : World} {base : Nat} {F : List Nat} (h : Gone w w1 base F) (x : Ext w1 w2) : Gone w w2 base F := GB.ext h x
theorem Gone.out {w0 w w1 : World} {F : List Nat} (h : Gone w w1 w0.heap.size F) (x : Ext w0 w) : Ext w0 w1 := GB.to_ext h x (fun _ e => e.1)
theorem Gone.blk {w w1 : World} {base : Nat} {F : List Nat} (h : Gone w w1 base F) {b : Nat} {o : Obj} (hb : w.heap[b]? = some o) (hF : b ∈ F) : w1.heap[b]? = some o := GB.blk h hb (fun e => e.2 hF)
theorem Gone.cell {w w1 : World} {base : Nat} {F : List Nat} (h : Gone w w1 base F) {b i : Nat} {v : Value} (hb : w.cell? ⟨b, i, none⟩ = some v) (hF : b ∈ F) : w1.cell? ⟨b, i, none⟩ = some v := GB.cell h hb (fun e => e.2 hF)
theorem Gone.own {w w1 : World} {base B : Nat} {F : List Nat} (h : Gone w w1 base F) {e : TypeId} {size : Nat} {v : Value} {n : Nat} {xs : List Value} (ho : w.ownsRow B e size v n xs) (hF : ∀ b, v.ownBlock = some b → b ∈ F) : w1.ownsRow B e size v n xs := GB.own h ho (fun b e1 e2 => e2.2 (hF b e1))
theorem Gone.rd {w w1 : World} {base : Nat} {F : List Nat} (h : Gone w w1 base F) {A : Option Addr} {vs : List Value} (hr : Rd w A vs) (hF : ∀ a, A = some a → a.block ∈ F ∨ a.block < base) : Rd w1 A vs := GB.rd h hr (fun a e e2 => (hF a e).elim e2.2 (fun e3 => by have := e2.1; omega))
theorem ConnIn.ext {w w1 : World} {base gc r : Nat} {s : CSt} {F : List Nat} (h : ConnIn w base gc r s F) (x : Ext w w1) : ConnIn w1 base gc r s F := by
  obtain ⟨L, RO, h1, h2⟩ := h
  exact ⟨L, RO, h1.ext x, fun b hb => ⟨(h2 b hb).1, (h2 b hb).2.1, Nat.lt_of_lt_of_le (h2 b hb).2.2 x.size⟩⟩
/-- others' blocks come and go -/
theorem ConnIn.more {w w1 : World} {base gc r : Nat} {s : CSt} {F F' : List Nat} (h : ConnIn w base gc r s F) (x : Ext w w1) (hF : ∀ b ∈ F', b ∈ F ∨ (w.heap.size ≤ b ∧ b < w1.heap.size)) : ConnIn w1 base gc r s F' := by
  obtain ⟨L, RO, h1, h2⟩ := h
  obtain ⟨b1, b2, b3⟩ := h1.bounds
  refine ⟨L, RO, h1.ext x, fun b hb => ?_⟩
  rcases hF b hb with e | e
  · exact ⟨(h2 b e).1, (h2 b e).2.1, Nat.lt_of_lt_of_le (h2 b e).2.2 x.size⟩
  · exact ⟨fun e2 => by have := (b2 b e2).2; omega, fun e2 => by have := (b3 b e2).2.2; omega, e.2⟩
/-- others write into their blocks -/
theorem ConnIn.far {w w1 : World} {base gc r : Nat} {s : CSt} {F : List Nat} {T : Nat → Prop} (h : ConnIn w base gc r s F) (g : GB w w1 T) (hT : ∀ b, T b → b ∈ F ∨ w.heap.size ≤ b) : ConnIn w1 base gc r s F := by
  obtain ⟨L, RO, h1, h2⟩ := h
  obtain ⟨b1, b2, b3⟩ := h1.bounds
  refine ⟨L, RO, h1.gb g (fun b e => ?_), fun b hb => ⟨(h2 b hb).1, (h2 b hb).2.1, Nat.lt_of_lt_of_le (h2 b hb).2.2 g.size⟩⟩
  rcases hT b e with e | e
  · exact ⟨(h2 b e).1, (h2 b e).2.1⟩
  · exact ⟨fun e2 => by have := (b2 b e2).2; omega, fun e2 => by have := (b3 b e2).2.2; omega⟩
theorem ConnIn.go {w w1 : World} {base gc r : Nat} {s s1 : CSt} {F : List Nat} {L : List (Option Nat)} {RO : Nat → Prop} (h1 : ConnAt w base L RO gc r s) (h2 : ∀ b ∈ F, some b ∉ L ∧ ¬ RO b ∧ b < w.heap.size) (k : ConnGo w base L RO gc r s1 w1) : ConnIn w1 base gc r s1 F ∧ Gone w w1 base F := by
  obtain ⟨L', RO', k1, k2, k3, k4⟩ := k
  obtain ⟨b1, b2, b3⟩ := h1.bounds
  refine ⟨⟨L', RO', k1, fun b hb => ?_⟩, k2.more (fun b _ e => ⟨(b2 b e).1, fun hb => (h2 b hb).1 e⟩)⟩
  obtain ⟨c1, c2, c3⟩ := h2 b hb
  refine ⟨fun e => (k3 b e).elim c1 (fun e => by omega), fun e => (k4 b e).elim c2 (fun e => e.elim c1 (fun e => by omega)), Nat.lt_of_lt_of_le c3 k2.size⟩
theorem ConnIn.gc_ne {w : World} {base gc r : Nat} {s : CSt} {F : List Nat} (h : ConnIn w base gc r s F) : gc ∉ F ∧ base ≤ gc := by
  obtain ⟨L, RO, h1, h2⟩ := h
  obtain ⟨b1, b2, b3⟩ := h1.bounds
  exact ⟨fun e => (h2 gc e).1 b1, (b2 gc b1).1⟩
theorem ConnIn.gc_lt {w : World} {base gc r : Nat} {s : CSt} {F : List Nat} (h : ConnIn w base gc r s F) : gc < w.heap.size := by
  obtain ⟨L, RO, h1, h2⟩ := h
  obtain ⟨b1, b2, b3⟩ := h1.bounds
  exact (b2 gc b1).2
theorem TokNew.gb {w w' : World} {base : Nat} {A : Option Addr} {n c : Nat} {l : List CTok} {ks : List KRef} {T : Nat → Prop} (h : TokNew w base A n c l ks) (g : GB w w' T) (hT : ∀ b, T b → b < base) : TokNew w' base A n c l ks :=
  ⟨h.1, h.2.1, g.own h.2.2.1 (fun b e t => by have := (h.2.2.1.lt b e).1; have := hT b t; omega), fun i q e h1 h2 => ⟨g.own (h.2.2.2 i q e h1 h2).1 (fun b e1 t => by have := ((h.2.2.2 i q e h1 h2).1.lt b e1).1; have := hT b t; omega), (h.2.2.2 i q e h1 h2).2⟩⟩
theorem cin_new (w : World) : Calls Try.prog 48 #[] w fun e w' => ∃ gc r, e = .returned (.pointer (some ⟨gc, 0, none⟩)) ∧ ConnIn w' w.heap.size gc r cInit [] ∧ Ext w w' :=
  (cnew_any w).mono fun e w' ⟨gc, r, L, RO, h1, h2, h3⟩ => ⟨gc, r, h1, ⟨L, RO, h2, fun b hb => by cases hb⟩, h3⟩
theorem cin_feed (w : World) (base gc r : Nat) (s : CSt) (F : List Nat) (h : ConnIn w base gc r s F) (hi : CInv s) (hc : s.closed = false) (hf : s.fin = 0) (hcl : s.cl = false) (A : Option Addr) (n c : Nat) (xs : List Nat) (hl : xs.length = n) (hb : ∀ x ∈ xs, x < 256) (hr : Rd w A (vals .u8 xs))
    (hN : s.ws.length + n ≤ 5000000000000) (hP : s.line.length + (parse (s.ws ++ xs)).1.length ≤ 1000000) :
    Calls Try.prog 49 #[.pointer (some ⟨gc, 0, none⟩), .slice A n c] w fun e w' => e = .returned (.int .i64 0) ∧ ConnIn w' base gc r (fedS s (s.ws ++ xs)) F ∧ Gone w w' base F := by
  obtain ⟨L, RO, h1, h2⟩ := h
  exact (cfeed_open w base gc r L RO s h1 hi hc hf hcl A n c xs hl hb hr hN hP).mono fun e w' ⟨k1, k2⟩ => ⟨k1, ConnIn.go h1 h2 k2⟩
theorem cin_feed_closed (w : World) (base gc r : Nat) (s : CSt) (F : List Nat) (h : ConnIn w base gc r s F) (hc : s.closed = true ∨ s.fin ≠ 0) (A : Option Addr) (n c : Nat) :
    Calls Try.prog 49 #[.pointer (some ⟨gc, 0, none⟩), .slice A n c] w fun e w' => e = .returned (.int .i64 13) ∧ w = w' := by
  obtain ⟨L, RO, h1, h2⟩ := h
  exact cfeed_closed w base gc r L RO s h1 hc A n c
theorem cin_next (w : World) (base gc r : Nat) (s : CSt) (F : List Nat) (h : ConnIn w base gc r s F) (ho : s.out = none) (hc : s.closed = false) (c : CCall) (rest : List CCall) (hl : s.line = c :: rest) (hk : c.key.length ≤ 5000) :
    Calls Try.prog 50 #[.pointer (some ⟨gc, 0, none⟩)] w fun x w' => ∃ A k, x = .returned (.tuple #[.agg #[.int .u8 (c.op : Int), .int .i64 (c.pol : Int), .slice A c.key.length k, .int .i64 (c.num : Int)], .int .i64 0]) ∧ ConnIn w' base gc r { s with line := rest, out := some c } F ∧ Gone w w' base F := by
  obtain ⟨L, RO, h1, h2⟩ := h
  exact (cnext_call w base gc r L RO s h1 ho hc c rest hl hk).mono fun e w' ⟨v, k1, ⟨A, k, k2⟩, k3⟩ => ⟨A, k, by rw [k1, k2], ConnIn.go h1 h2 k3⟩
theorem cin_next_busy (w : World) (base gc r : Nat) (s : CSt) (F : List Nat) (h : ConnIn w base gc r s F) (c : CCall) (ho : s.out = some c) :
    Calls Try.prog 50 #[.pointer (some ⟨gc, 0, none⟩)] w (RetE (.tuple #[callZ, .int .i64 9]) w) := by
  obtain ⟨L, RO, h1, h2⟩ := h
  exact cnext_busy w base gc r L RO s h1 c ho
theorem cin_next_closed (w : World) (base gc r : Nat) (s : CSt) (F : List Nat) (h : ConnIn w base gc r s F) (ho : s.out = none) (hc : s.closed = true) :
    Calls Try.prog 50 #[.pointer (some ⟨gc, 0, none⟩)] w (RetE (.tuple #[callZ, .int .i64 13]) w) := by
  obtain ⟨L, RO, h1, h2⟩ := h
  exact cnext_closed w base gc r L RO s h1 ho hc
theorem cin_next_end (w : World) (base gc r : Nat) (s : CSt) (F : List Nat) (h : ConnIn w base gc r s F) (hwr : s.wr.length ≤ 1000000) (ho : s.out = none) (hc : s.closed = false) (hl : s.line = []) (e : Nat) (hf : s.fin = e) (he0 : e ≠ 0) (he : e ≤ 16) :
    Calls Try.prog 50 #[.pointer (some ⟨gc, 0, none⟩)] w fun x w' => ∃ q B, RepIs (e : Int) false [0, 0, 0, 0] q B ∧ x = .returned (.tuple #[callZ, .int .i64 13]) ∧ ConnIn w' base gc r { wrote s q B with closed := true } F ∧ Gone w w' base F := by
  obtain ⟨L, RO, h1, h2⟩ := h
  exact (cnext_end w base gc r L RO s h1 hwr ho hc hl e hf he0 he).mono fun x w' ⟨q, B, k1, k2, k3⟩ => ⟨q, B, k1, k2, ConnIn.go h1 h2 k3⟩
theorem cin_reply (w : World) (base gc r : Nat) (s : CSt) (F : List Nat) (h : ConnIn w base gc r s F) (hi : CInv s) (hwr : s.wr.length ≤ 1000000) (hled : s.led.length ≤ 100000 - 1) (c : CCall) (ho : s.out = some c) (e : Nat) (he : e ≤ 16) (g : Bool) (l t sn nw : Int) :
    Calls Try.prog 52 #[.pointer (some ⟨gc, 0, none⟩), .agg #[.int .i64 (e : Int), .bool g, .int .i64 l, .int .i64 t, .int .i64 sn, .int .i64 nw]] w fun x w' => ∃ q B, RepIs (e : Int) g [l, t, sn, nw] q B ∧ x = .returned (.int .i64 q) ∧ ConnIn w' base gc r (if q = 0 then repliedS s c (e : Int) sn B else s) F ∧ Gone w w' base F := by
  obtain ⟨L, RO, h1, h2⟩ := h
  exact (creply_call w base gc r L RO s h1 hi hwr hled c ho e he g l t sn nw).mono fun x w' ⟨q, B, k1, k2, k3⟩ => ⟨q, B, k1, k2, ConnIn.go h1 h2 k3⟩
theorem cin_reply_idle (w : World) (base gc r : Nat) (s : CSt) (F : List Nat) (h : ConnIn w base gc r s F) (ho : s.out = none) (e : Int) (g : Bool) (l t sn nw : Int) :
    Calls Try.prog 52 #[.pointer (some ⟨gc, 0, none⟩), .agg #[.int .i64 e, .bool g, .int .i64 l, .int .i64 t, .int .i64 sn, .int .i64 nw]] w fun x w' => ∃ q B, RepIs e g [l, t, sn, nw] q B ∧ x = .returned (.int .i64 (if q = 0 then 7 else q)) ∧ Ext w w' := by
  obtain ⟨L, RO, h1, h2⟩ := h
  exact creply_idle w base gc r L RO s h1 ho e g l t sn nw
theorem cin_take (w : World) (base gc r : Nat) (s : CSt) (F : List Nat) (h : ConnIn w base gc r s F) :
    Calls Try.prog 53 #[.pointer (some ⟨gc, 0, none⟩)] w fun e w' => ∃ WA wc, e = .returned (.slice WA s.wr.length wc) ∧ ConnIn w' base gc r { s with wr := [] } F ∧ Gone w w' base F ∧ w'.ownsRow base 5 1 (.slice WA s.wr.length wc) s.wr.length (vals .u8 s.wr) ∧ GB w w' (· = gc) := by
  have hg := h.gc_ne
  obtain ⟨L, RO, h1, h2⟩ := h
  exact (ctake_any w base gc r L RO s h1).mono fun e w' ⟨WA, wc, L', k1, k2, k3, k4, k5, k6⟩ => ⟨WA, wc, k1, ⟨L', RO, k2, fun b hb => ⟨fun e => (h2 b hb).1 (k4 b e), (h2 b hb).2.1, Nat.lt_of_lt_of_le (h2 b hb).2.2 k3.size⟩⟩, k3.more (fun b _ e => by subst e; exact ⟨hg.2, hg.1⟩), k5, k3⟩
theorem cin_hangup (w : World) (base gc r : Nat) (s : CSt) (F : List Nat) (h : ConnIn w base gc r s F) (hn : s.led.length ≤ 100000) (hkl : ∀ t ∈ s.led, t.key.length ≤ 5000) :
    Calls Try.prog 55 #[.pointer (some ⟨gc, 0, none⟩)] w fun e w' => ∃ A c ks, e = .returned (.slice A s.led.length c) ∧ ConnIn w' base gc r (hangS s) F ∧ TokNew w' w.heap.size A s.led.length c s.led ks ∧ Gone w w' base F := by
  have hg := h.gc_ne
  obtain ⟨L, RO, h1, h2⟩ := h
  exact (changup_any w base gc r L RO s h1 hn hkl).mono fun e w' ⟨A, c, ks, L', k1, k2, k3, k4, k5⟩ => ⟨A, c, ks, k1, ⟨L', RO, k2, fun b hb => ⟨fun e => (h2 b hb).1 (k5 b e), (h2 b hb).2.1, Nat.lt_of_lt_of_le (h2 b hb).2.2 k4.size⟩⟩, k3, k4.more (fun b _ e => by subst e; exact ⟨hg.2, hg.1⟩)⟩
theorem cin_ledger (w : World) (base gc r : Nat) (s : CSt) (F : List Nat) (h : ConnIn w base gc r s F) (hn : s.led.length ≤ 100000) (hkl : ∀ t ∈ s.led, t.key.length ≤ 5000) :
    Calls Try.prog 57 #[.pointer (some ⟨gc, 0, none⟩)] w (LedR s.led w) := by
  obtain ⟨L, RO, h1, h2⟩ := h
  exact cledger_any w base gc r L RO s h1 hn hkl
theorem cin_open (w : World) (base gc r : Nat) (s : CSt) (F : List Nat) (h : ConnIn w base gc r s F) :
    Calls Try.prog 54 #[.pointer (some ⟨gc, 0, none⟩)] w fun e w' => e = .returned (.bool (!s.closed)) ∧ w = w' := by
  obtain ⟨L, RO, h1, h2⟩ := h
  exact copen_any w base gc r L RO s h1
theorem cin_waiting (w : World) (base gc r : Nat) (s : CSt) (F : List Nat) (h : ConnIn w base gc r s F) :
    Calls Try.prog 51 #[.pointer (some ⟨gc, 0, none⟩)] w fun e w' => e = .returned (.int .i64 (s.line.length : Int)) ∧ w = w' := by
  obtain ⟨L, RO, h1, h2⟩ := h
  exact cwaiting_any w base gc r L RO s h1

theorem n64_info : (Try.prog.info? 2).map (fun i => (i.zero, i.size, i.bytes)) = some (some (.int .i64 0), 1, 8) := by kernel_rfl
/-- append of one number onto a list of the call's own -/
theorem app_n64 {ops : Array Oper} {rest : List Oper} {o : Oper} {a : Act} {Q : Exit → Act → World → Prop} (w : World) (hgd : o.guard = none) (s x : Operand)
    (ho : o.op = .call { callee := .builtin .append, args := #[s, x], argTypes := #[92, 92] })
    (base : Nat) {B : Option Addr} {n cb : Nat} {xs : List Nat} (hs : a.eval s = .slice B n cb) (hown : w.ownsRow base 2 1 (.slice B n cb) n (vals .i64 xs))
    {A : Option Addr} {m c : Nat} {news : List Nat} (hx : a.eval x = .slice A m c) (hl : news.length = m) (hr : Rd w A (vals .i64 news)) (hb : n + m ≤ 17592186044416) (hbase : base ≤ w.heap.size)
    (h : ∀ B' cb' w', w'.ownsRow base 2 1 (.slice B' (n + m) cb') (n + m) (vals .i64 (xs ++ news)) → w.grownBy w' (Value.slice B n cb).ownBlock →
      ((Value.slice B' (n + m) cb').ownBlock = (Value.slice B n cb).ownBlock ∨ (Value.slice B' (n + m) cb').ownBlock = some w.heap.size) → wpList Try.prog ops Q rest (a.put o.dst (.slice B' (n + m) cb')) w') :
    wpList Try.prog ops Q (o :: rest) a w := by
  obtain ⟨i0, hi, hz0, hz1, hz2⟩ := info_parts n64_info
  refine wpList_append_rd w hgd s x 92 ho base 2 Try.underlying92 hi hz0 hz1 hz2 rfl (by decide) hs hown hx (by rw [vals_len, hl, Nat.mul_one]) hr (vals_one _ _) (by unfold maxLen; omega) (by omega) hbase ?_
  intro B' cb' w' h2 h3 h4
  rw [← vals_append] at h2
  exact h B' cb' w' h2 h3 h4
/-- the ledger of these serials -/
def ledOf (hs : List Nat) : List CTok := hs.map fun n => ⟨1, [97 + n % 2], (n : Int)⟩
theorem ledOf_len (hs : List Nat) : (ledOf hs).length = hs.length := by simp [ledOf]
theorem ledOf_keys (hs : List Nat) : ∀ t ∈ ledOf hs, t.key.length = 1 ∧ ∀ x ∈ t.key, x < 256 := fun t ht => by
  obtain ⟨n, _, rfl⟩ := List.mem_map.1 ht
  refine ⟨rfl, fun x hx => ?_⟩
  simp at hx
  omega
theorem isTok_led (n m : Nat) : isTok ⟨3, 1, [97 + n % 2], n⟩ ⟨1, [97 + m % 2], (m : Int)⟩ = decide (m = n) := by
  unfold isTok
  by_cases h : m = n
  · subst h; simp
  · rw [decide_eq_false h, decide_eq_false]
    rintro ⟨_, _, h3⟩
    dsimp only at h3
    omega
theorem idx_led {n : Nat} : ∀ {hs : List Nat} {j : Nat}, hs.Pairwise (· < ·) → hs[j]? = some n → idxT ⟨3, 1, [97 + n % 2], n⟩ (ledOf hs) = some j ∧ hs.eraseIdx j = hs.filter (fun m => decide (m ≠ n))
  | [], _, _, h => by simp at h
  | m :: hs, 0, hp, h => by
    simp at h
    subst h
    refine ⟨?_, ?_⟩
    · show idxT _ (_ :: ledOf hs) = _
      unfold idxT
      rw [isTok_led, decide_eq_true rfl, if_pos rfl]
    · rw [List.eraseIdx_zero, List.tail_cons, List.filter_cons_of_neg (by simp)]
      refine (List.filter_eq_self.2 fun x hx => ?_).symm
      have := (List.pairwise_cons.1 hp).1 x hx
      simp; omega
  | m :: hs, j + 1, hp, h => by
    have h' : hs[j]? = some n := by simpa using h
    obtain ⟨h1, h2⟩ := List.pairwise_cons.1 hp
    have hlt := h1 n (List.mem_of_getElem? h')
    obtain ⟨k1, k2⟩ := idx_led h2 h'
    refine ⟨?_, ?_⟩
    · show idxT _ (_ :: ledOf hs) = _
      unfold idxT
      rw [isTok_led, decide_eq_false (by omega), if_neg (by simp), k1]
      rfl
    · rw [List.eraseIdx_cons_succ, k2, List.filter_cons_of_pos (by simp; omega)]
theorem ledOf_erase : ∀ (hs : List Nat) (j : Nat), (ledOf hs).eraseIdx j = ledOf (hs.eraseIdx j)
  | [], _ => rfl
  | _ :: _, 0 => rfl
  | m :: hs, j + 1 => by
    show (_ :: ledOf hs).eraseIdx (j + 1) = _
    rw [List.eraseIdx_cons_succ, List.eraseIdx_cons_succ, ledOf_erase hs j]
    rfl
/-- nothing is under way -/
def Idle (s : CSt) : Prop := s.ws = [] ∧ s.cl = false ∧ s.line = [] ∧ s.fin = 0 ∧ s.out = none ∧ s.closed = false ∧ s.hung = false
/-- a released serial goes -/
theorem replied_rel {s : CSt} {B : List Nat} {hs : List Nat} {n j : Nat} (hl : s.led = ledOf hs) (hh : s.hung = false) (hp : hs.Pairwise (· < ·)) (hj : hs[j]? = some n) (sn : Int) : repliedS s ⟨3, 1, [97 + n % 2], n⟩ 0 sn B = { s with wr := s.wr ++ (len4 B.length ++ B), out := none, led := ledOf (hs.filter fun m => decide (m ≠ n)) } := by
  obtain ⟨k1, k2⟩ := idx_led hp hj
  unfold repliedS wrote
  dsimp only
  rw [if_pos rfl, if_neg (by omega), if_pos (by rfl), if_pos ⟨rfl, hh⟩, hl, k1]
  dsimp only
  rw [ledOf_erase, k2]
theorem replied_err {s : CSt} {c : CCall} {e : Int} {B : List Nat} (he : e ≠ 0) (hh : s.hung = false) (sn : Int) : repliedS s c e sn B = { s with wr := s.wr ++ (len4 B.length ++ B), out := none } := by
  unfold repliedS wrote
  rw [if_neg he, if_pos ⟨rfl, hh⟩]
/-- a row of others' grows -/
theorem ConnIn.grown {w w1 : World} {base gc r : Nat} {s : CSt} {F F' : List Nat} {row : Option Nat} (h : ConnIn w base gc r s F) (g : w.grownBy w1 row) (hr : ∀ b, row = some b → b ∈ F) (hF : ∀ b ∈ F', b ∈ F ∨ (w.heap.size ≤ b ∧ b < w1.heap.size)) : ConnIn w1 base gc r s F' := by
  obtain ⟨L, RO, h1, h2⟩ := h
  obtain ⟨b1, b2, b3⟩ := h1.bounds
  have g2 : GB w w1 (fun b => row = some b) := (GB.refl w _).grown g (fun q e => .inl e)
  refine ⟨L, RO, h1.gb g2 (fun b e => ⟨(h2 b (hr b e)).1, (h2 b (hr b e)).2.1⟩), fun b hb => ?_⟩
  rcases hF b hb with e | e
  · exact ⟨(h2 b e).1, (h2 b e).2.1, Nat.lt_of_lt_of_le (h2 b e).2.2 g.size⟩
  · exact ⟨fun e2 => by have := (b2 b e2).2; omega, fun e2 => by have := (b3 b e2).2.2; omega, e.2⟩
/-- a call's frame -/
def frameOf (c : CCall) : List Nat := len4 (reqB c.op c.pol c.key c.num).length ++ reqB c.op c.pol c.key c.num
/-- request of a right call -/
theorem crequest_norm (c : CCall) (h : NormC c.op c.pol c.key c.num) (n : Nat) (hl : c.key.length = n) (A : Option Addr) (cp : Nat) (w : World) (hr : Rd w A (vals .u8 c.key)) :
    Calls Try.prog 47 #[callV (c.op : Int) (c.pol : Int) A n cp (c.num : Int)] w (RetFr (some (frameOf c)) w) := by
  obtain ⟨op, p, xs, N⟩ := c
  unfold frameOf
  dsimp only at h hl hr ⊢
  obtain ⟨hR, hb, hz, hn⟩ := h
  obtain ⟨F, hF, -, hC⟩ := crequest_any op (by have := hR.2.1; omega) (p : Int) (N : Int) n xs hl hb
  have hFe : F = some (len4 (reqB op p xs N).length ++ reqB op p xs N) := by
    rcases hF with ⟨_, h⟩ | ⟨P', M, h1, h2, h3, h4⟩
    · exact absurd hR (h p N (fun _ => rfl) (fun _ => rfl))
    · have : reqB op P' xs M = reqB op p xs N := by
        by_cases h5 : 5 ≤ op
        · rw [reqB_56 (by have := hR.2.1; omega), reqB_56 (by have := hR.2.1; omega)]
        · have e1 : P' = p := by have := h1 (by omega); omega
          subst e1
          by_cases h13 : op = 1 ∨ op = 3
          · have e2 : M = N := by have := h2 h13; omega
            rw [e2]
          · have h24 : op = 2 ∨ op = 4 := by have := hR.1; omega
            rcases h24 with rfl | rfl
            · rw [reqB_2, reqB_2]
            · rw [reqB_4, reqB_4]
      rw [h4, this]
  rw [hFe] at hC
  exact hC A cp w hr
theorem norm_len' {c : CCall} (h : NormC c.op c.pol c.key c.num) : c.key.length ≤ 255 ∧ 1 ≤ (reqB c.op c.pol c.key c.num).length ∧ (reqB c.op c.pol c.key c.num).length ≤ 1000 ∧ (∀ x ∈ reqB c.op c.pol c.key c.num, x < 256) := by
  have hk : c.key.length ≤ 255 := by
    by_cases h5 : 5 ≤ c.op
    · rw [(h.2.2.1 h5).2.1]; simp
    · exact (h.1.2.2.1 (by omega)).2
  exact ⟨hk, reqB_pos' _ _ _ _, reqB_len' hk, reqB_lt h.1 h.2.1⟩
/-- a right call's frame is fed -/
theorem cin_feed_one (w : World) (base gc r : Nat) (s : CSt) (F : List Nat) (h : ConnIn w base gc r s F) (hi : CInv s) (hid : s.ws = [] ∧ s.cl = false ∧ s.fin = 0 ∧ s.closed = false) (hline : s.line.length ≤ 1000) (c : CCall) (hc : NormC c.op c.pol c.key c.num) (A : Option Addr) (cp : Nat) (L : List Nat) (hL : frameOf c = L) (n : Nat) (hn : L.length = n) (hr : Rd w A (vals .u8 L)) :
    Calls Try.prog 49 #[.pointer (some ⟨gc, 0, none⟩), .slice A n cp] w fun e w' => e = .returned (.int .i64 0) ∧ ConnIn w' base gc r { s with line := s.line ++ [c] } F ∧ Gone w w' base F := by
  obtain ⟨i1, i2, i3, i4⟩ := hid
  replace hL : L = len4 (reqB c.op c.pol c.key c.num).length ++ reqB c.op c.pol c.key c.num := hL.symm
  obtain ⟨-, l1, l2, l3⟩ := norm_len' hc
  have hfs := fed_one i1 i2 i3 l1 (by omega) (decC_of hc)
  have hb : ∀ x ∈ L, x < 256 := fun x hx => by
    rw [hL] at hx
    exact (List.mem_append.1 hx).elim (len4_lt _ x) (l3 x)
  have hp : (parse (s.ws ++ L)).1.length ≤ 1000 + 10 := by
    obtain ⟨k1, -, -⟩ := parse_small ((s.ws ++ L).length + 1) (s.ws ++ L) (by omega)
    rw [i1, List.nil_append] at k1 ⊢
    rw [hL, List.length_append] at k1
    rw [hL]
    simp [len4] at k1
    simp [len4]
    omega
  have hnn : n ≤ 1010 := by rw [← hn, hL, List.length_append]; simp [len4]; omega
  have := cin_feed w base gc r s F h hi i4 i3 i2 A n cp L hn hb hr (by rw [i1]; simp; omega) (by omega)
  rw [hL, hfs] at this
  exact this
theorem norm_acq {kb : Nat} (hkb : kb < 256) : NormC (⟨2, 1, [kb], 0⟩ : CCall).op (⟨2, 1, [kb], 0⟩ : CCall).pol (⟨2, 1, [kb], 0⟩ : CCall).key (⟨2, 1, [kb], 0⟩ : CCall).num := by
  show NormC 2 1 [kb] 0
  exact ⟨⟨by omega, by omega, fun _ => ⟨by omega, by simp⟩, (fun h => by cases h), (fun h => by cases h)⟩, (fun x hx => by simp at hx; omega), (fun h => by omega), fun _ => rfl⟩
theorem norm_rel {kb m : Nat} (hkb : kb < 256) (h1 : 1 ≤ m) (h2 : m ≤ 1000) : NormC (⟨3, 1, [kb], m⟩ : CCall).op (⟨3, 1, [kb], m⟩ : CCall).pol (⟨3, 1, [kb], m⟩ : CCall).key (⟨3, 1, [kb], m⟩ : CCall).num := by
  show NormC 3 1 [kb] m
  exact ⟨⟨by omega, by omega, fun _ => ⟨by omega, by simp⟩, (fun h => by cases h), (fun _ => ⟨h1, by omega⟩)⟩, (fun x hx => by simp at hx; omega), (fun h => by omega), fun h => by omega⟩
end

section
open Go.RowKit

theorem flat_at {α β : Type} (f : α → List β) (n : Nat) : ∀ (L : List α), (∀ r ∈ L, (f r).length = n) → ∀ q u, (L.flatMap f)[q]? = some u → ∃ i j r, q = i * n + j ∧ j < n ∧ L[i]? = some r ∧ (f r)[j]? = some u
  | [], _, q, u, h => by simp at h
  | a :: L, hn, q, u, h => by
    rw [List.flatMap_cons] at h
    have ha := hn a (by simp)
    by_cases hq : q < n
    · rw [List.getElem?_append_left (by omega)] at h
      exact ⟨0, q, a, by omega, hq, rfl, h⟩
    · rw [List.getElem?_append_right (by omega), ha] at h
      obtain ⟨i, j, r, h1, h2, h3, h4⟩ := flat_at f n L (fun r hr => hn r (by simp [hr])) _ u h
      exact ⟨i + 1, j, r, by rw [Nat.succ_mul]; omega, h2, by simpa using h3, h4⟩
theorem flat_get {α β : Type} (f : α → List β) (n : Nat) : ∀ (L : List α), (∀ r ∈ L, (f r).length = n) → ∀ i r, L[i]? = some r → ∀ j, j < n → (L.flatMap f)[i * n + j]? = (f r)[j]?
  | [], _, i, r, h, _, _ => by simp at h
  | a :: L, hn, i, r, h, j, hj => by
    rw [List.flatMap_cons]
    have ha := hn a (by simp)
    cases i with
    | zero =>
      simp at h
      subst h
      rw [Nat.zero_mul, Nat.zero_add, List.getElem?_append_left (by omega)]
    | succ i =>
      rw [List.getElem?_append_right (by rw [Nat.succ_mul]; omega), show (i + 1) * n + j - (f a).length = i * n + j by rw [Nat.succ_mul]; omega]
      exact flat_get f n L (fun r hr => hn r (by simp [hr])) i r (by simpa using h) j hj

/-- a row of numbers as values of kinds -/
def recVals (ks : List IntKind) (r : List Int) : List Value := List.zipWith Value.int ks r
/-- rows that fit -/
def RecsOk (ks : List IntKind) (R : List (List Int)) : Prop := ∀ r ∈ R, r.length = ks.length ∧ ∀ (j : Nat) (k : IntKind) (z : Int), ks[j]? = some k → r[j]? = some z → (Lit.int k z).wf = true
theorem recVals_len {ks : List IntKind} {r : List Int} (h : r.length = ks.length) : (recVals ks r).length = ks.length := by simp [recVals, h]
theorem recs_cell {w : World} {A : Option Addr} {ks : List IntKind} {R : List (List Int)} (hr : Rd w A (R.flatMap (recVals ks))) (hk : RecsOk ks R) (hn : 0 < ks.length) {i : Nat} {r : List Int} (hi : R[i]? = some r) :
    ∃ b off, A = some ⟨b, off, none⟩ ∧ b < w.heap.size ∧ ∀ (j : Nat) (k : IntKind) (z : Int), ks[j]? = some k → r[j]? = some z → w.cell? ⟨b, off + (i * ks.length + j), none⟩ = some (.int k z) := by
  have hlen : ∀ r ∈ R, (recVals ks r).length = ks.length := fun r hr => recVals_len (hk r hr).1
  have hrl := (hk r (List.mem_of_getElem? hi)).1
  have hg : ∀ (j : Nat) (k : IntKind) (z : Int), ks[j]? = some k → r[j]? = some z → (R.flatMap (recVals ks))[i * ks.length + j]? = some (.int k z) := fun j k z h1 h2 => by
    rw [flat_get (recVals ks) ks.length R hlen i r hi j (List.getElem?_eq_some_iff.1 h1).1]
    simp [recVals, List.getElem?_zipWith, h1, h2]
  obtain ⟨k0, hk0⟩ : ∃ k0, ks[0]? = some k0 := ⟨_, List.getElem?_eq_getElem hn⟩
  obtain ⟨z0, hz0⟩ : ∃ z0, r[0]? = some z0 := ⟨_, List.getElem?_eq_getElem (by omega)⟩
  have h0 := hg 0 k0 z0 hk0 hz0
  obtain ⟨b, off, hA, hc⟩ := hr (by intro e; rw [e] at h0; simp at h0)
  exact ⟨b, off, hA, World.block_lt_of_cell? w _ (hc _ _ h0), fun j k z h1 h2 => hc _ _ (hg j k z h1 h2)⟩
end

section
open Go.RowKit
open Go.ChangeShapes Go.WideShapes Go.ChangeAt Go.Deep

section
variable {H : Type} {enc : TypeId × Value → H} {P : Program} {w : World} {base : Nat} {spare : Nat → Bool} {held : Bool}
theorem open_slice_fields {t e : TypeId} {fs : Array Field} {fuel : Nat} {cs : List Value} {x : DataW H × List MemPlace} (ht : P.underlying t = some (.slice e)) (he : P.underlying e = some (.struct fs))
    (hone : oneCellFields P fs = true) (hC : P.cellsOf e = fs.size) (h : DataW.trod enc P w base spare held fuel t cs = some x) :
    (cs = [.slice none 0 0] ∧ x = (.nil, [])) ∨
    ∃ (a : Addr) (len cap m : Nat) (D : Nat → DataW H) (Pl : Nat → List MemPlace), cs = [.slice (some a) len cap] ∧ base ≤ a.block ∧ len ≤ cap ∧ cap ≤ maxLen ∧ m = (if spare a.block then cap else len) ∧
      x = (.slice ((List.range len).map D) ((List.range (m - len)).map fun j => D (len + j)), MemPlace.row a (m * fs.size) ++ (List.range m).flatMap Pl) ∧
      ∀ i, i < m → ∃ (ys : List (DataW H × List MemPlace)) (n : Nat), D i = .agg (ys.map (·.1)) ∧ Pl i = ys.flatMap (·.2) ∧ ys.length = fs.size ∧
        ∀ (j : Nat) (f : Field), fs[j]? = some f → ∃ (v : Value) (y : DataW H × List MemPlace), w.cell? (a.add (i * fs.size + j)) = some v ∧ ys[j]? = some y ∧ DataW.trod enc P w base spare held n f.type [v] = some y := by
  rcases open_slice ht h with h0 | ⟨a, len, cap, m, n, D, Pl, hcs, hb, hl, hm, hmm, hx, hi⟩
  · exact .inl h0
  · refine .inr ⟨a, len, cap, m, D, Pl, hcs, hb, hl, hm, hmm, by rw [hC] at hx; exact hx, fun i him => ?_⟩
    obtain ⟨cs', hc, ht'⟩ := hi i him
    rw [hC] at hc
    obtain ⟨ys, n', hn', hy, hlen, hyl, hf⟩ := DataW.trod_struct he ht'
    obtain ⟨_, hcl, hat⟩ := World.cells?_some hc
    simp only [Prod.mk.injEq] at hy
    refine ⟨ys, n', hy.1, hy.2, hyl, fun j f hj => ?_⟩
    obtain ⟨ho, hk⟩ := hone_of hone j f hj
    have hjl : j < fs.size := (Array.getElem?_eq_some_iff.1 hj).1
    have hcell := hat j hjl
    have hv : cs'[j]? = some (cs'[j]'(by omega)) := List.getElem?_eq_getElem (by omega)
    have h1 := hf j f hj
    rw [ho, hk] at h1
    have hone' : (cs'.drop j).take 1 = [cs'[j]'(by omega)] := by
      rw [List.drop_eq_getElem_cons (by omega)]
      rfl
    rw [hone'] at h1
    have hys : ys[j]? = some (ys[j]'(by omega)) := List.getElem?_eq_getElem (by omega)
    refine ⟨_, _, ?_, hys, h1.trans hys⟩
    rw [← Go.Deep.add_add, hcell, hv]
end
section
variable {H : Type} {enc : TypeId × Value → H} {P : Program}
theorem open_recs {t e : TypeId} {fs : Array Field} (ks : List IntKind) {W : World} {a : Option Addr} {len cap : Nat} {d : DataW H} {p : List MemPlace} (ht : P.underlying t = some (.slice e)) (he : P.underlying e = some (.struct fs))
    (hone : oneCellFields P fs = true) (hC : P.cellsOf e = fs.size) (hf : (fs.toList.map fun f => P.underlying f.type) = ks.map fun k => some (.int k))
    (h : DataW.Trod enc P W 0 (fun _ => true) true t (.slice a len cap) d p) :
    ∃ R : List (List Int), R.length = len ∧ RecsOk ks R ∧ Rd W a (R.flatMap (recVals ks)) ∧ len ≤ cap ∧ cap ≤ maxLen ∧ SizeOf d len cap := by
  have hks : ks.length = fs.size := by have := congrArg List.length hf; simpa using this.symm
  obtain ⟨fuel, hh⟩ := h
  rcases open_slice_fields ht he hone hC hh with ⟨hcs, hx⟩ | ⟨a', l, c, m, D, Pl, hcs, _, hl, hm, hmm, hx, hall⟩
  · simp [Value.cells] at hcs
    obtain ⟨rfl, rfl, rfl⟩ := hcs
    simp only [Prod.mk.injEq] at hx
    exact ⟨[], rfl, fun r hr => by simp at hr, Rd.nil _ _, Nat.le_refl _, Nat.zero_le _, .inl ⟨hx.1, rfl, rfl⟩⟩
  · simp [Value.cells] at hcs
    obtain ⟨rfl, rfl, rfl⟩ := hcs
    simp only [Prod.mk.injEq] at hx
    simp only [if_true] at hmm
    subst hmm
    have hz : ∀ i, ∀ j, ∃ z : Int, i < len → ∀ k, ks[j]? = some k → W.cell? (a'.add (i * fs.size + j)) = some (.int k z) ∧ (Lit.int k z).wf = true := by
      intro i j
      by_cases hij : i < len ∧ j < fs.size
      · obtain ⟨ys, n, _, _, _, hfj⟩ := hall i (by omega)
        obtain ⟨f, hfq⟩ : ∃ f, fs[j]? = some f := ⟨_, Array.getElem?_eq_getElem hij.2⟩
        obtain ⟨v, y, h1, h2, h3⟩ := hfj j f hfq
        obtain ⟨k, hk⟩ : ∃ k, ks[j]? = some k := ⟨_, List.getElem?_eq_getElem (by omega)⟩
        have hu : P.underlying f.type = some (.int k) := by
          have := congrArg (fun l => l[j]?) hf
          simp [hfq, hk] at this
          exact this
        obtain ⟨z, hz, _, hw⟩ := DataW.trod_int hu h3
        injection hz with hz _
        subst hz
        exact ⟨z, fun _ k' hk' => by rw [hk] at hk'; injection hk' with hk'; subst hk'; exact ⟨h1, hw⟩⟩
      · refine ⟨0, fun hi k hk => absurd ⟨hi, ?_⟩ hij⟩
        have := (List.getElem?_eq_some_iff.1 hk).1
        omega
    obtain ⟨Z, hZ⟩ := Classical.axiomOfChoice (fun i => Classical.axiomOfChoice (hz i))
    have hrow : ∀ i j z, ((List.range fs.size).map (Z i))[j]? = some z → z = Z i j := fun i j z h => by
      rw [List.getElem?_map] at h
      cases hj : (List.range fs.size)[j]? with
      | none => rw [hj] at h; cases h
      | some q =>
        rw [hj] at h
        injection h with h
        rw [← h]
        congr 1
        have := List.getElem?_eq_some_iff.1 hj
        obtain ⟨h1, h2⟩ := this
        simpa using h2.symm
    have hok : RecsOk ks ((List.range len).map fun i => (List.range fs.size).map (Z i)) := by
      intro r hr
      obtain ⟨i, hi, rfl⟩ := List.mem_map.1 hr
      refine ⟨by simp [hks], fun j k z hk hzj => ?_⟩
      rw [hrow i j z hzj]
      exact (hZ i j (List.mem_range.1 hi) k hk).2
    refine ⟨(List.range len).map fun i => (List.range fs.size).map (Z i), by simp, hok, ?_, hl, hm, .inr ⟨_, _, hx.1, by simp, by simp; omega⟩⟩
    refine rd_of_cells fun q u hu => ?_
    obtain ⟨i, j, r, rfl, hj, hi, hu⟩ := flat_at (recVals ks) ks.length _ (fun r hr => recVals_len (hok r hr).1) q u hu
    have hil : i < len := by have := (List.getElem?_eq_some_iff.1 hi).1; simpa using this
    have hr : r = (List.range fs.size).map (Z i) := by
      rw [List.getElem?_map, List.getElem?_range hil] at hi
      injection hi with hi
      exact hi.symm
    subst hr
    obtain ⟨k, hk⟩ : ∃ k, ks[j]? = some k := ⟨_, List.getElem?_eq_getElem hj⟩
    simp only [recVals, List.getElem?_zipWith, hk] at hu
    cases hzj : ((List.range fs.size).map (Z i))[j]? with
    | none => rw [hzj] at hu; cases hu
    | some z =>
      rw [hzj] at hu
      injection hu with hu
      rw [← hu, hrow i j z hzj, hks]
      exact (hZ i j hil k hk).1
end
end

section
open Go.RowKit
open Go.ChangeShapes Go.WideShapes Go.ChangeAt Go.Deep

structure CallA where
  op : Nat
  who : Int
  K : Option Addr
  cap : Nat
  key : List Nat
  val : Int
def callAVals (r : CallA) : List Value := [.int .u8 (r.op : Int), .int .i64 r.who, .slice r.K r.key.length r.cap, .int .i64 r.val]
def CallAOk (w : World) (r : CallA) : Prop := (Lit.int .i64 r.who).wf = true ∧ r.op < 256 ∧ (∀ x ∈ r.key, x < 256) ∧ r.key.length ≤ r.cap ∧ r.cap ≤ maxLen ∧ Rd w r.K (vals .u8 r.key) ∧ (Lit.int .i64 r.val).wf = true
section
variable {H : Type} {enc : TypeId × Value → H} {P : Program}
theorem calla_at {q0 q1 q2 q3 e8 : TypeId} {W : World} {a' : Addr} {i n0 n1 n2 n3 : Nat} {v0 v1 v2 v3 : Value} {y0 y1 y2 y3 : DataW H × List MemPlace}
    (hu0 : P.underlying q0 = some (.int .u8)) (hu1 : P.underlying q1 = some (.int .i64)) (hu2 : P.underlying q2 = some (.slice e8)) (he8 : P.underlying e8 = some (.int .u8)) (hc8 : P.cellsOf e8 = 1) (hu3 : P.underlying q3 = some (.int .i64))
    (c0 : W.cell? (a'.add (i * 4 + 0)) = some v0) (c1 : W.cell? (a'.add (i * 4 + 1)) = some v1) (c2 : W.cell? (a'.add (i * 4 + 2)) = some v2) (c3 : W.cell? (a'.add (i * 4 + 3)) = some v3)
    (t0 : DataW.trod enc P W 0 (fun _ => true) true n0 q0 [v0] = some y0) (t1 : DataW.trod enc P W 0 (fun _ => true) true n1 q1 [v1] = some y1) (t2 : DataW.trod enc P W 0 (fun _ => true) true n2 q2 [v2] = some y2) (t3 : DataW.trod enc P W 0 (fun _ => true) true n3 q3 [v3] = some y3) :
    ∃ r : CallA, CallAOk W r ∧ ∀ j u, (callAVals r)[j]? = some u → W.cell? (a'.add (i * 4 + j)) = some u := by
  obtain ⟨z0, h0, _, w0⟩ := DataW.trod_int hu0 t0
  obtain ⟨z1, h1, _, w1⟩ := DataW.trod_int hu1 t1
  obtain ⟨z3, h3, _, w3⟩ := DataW.trod_int hu3 t3
  injection h0 with h0 _
  injection h1 with h1 _
  injection h3 with h3 _
  subst h0 h1 h3
  have hsl : ∃ A l c, v2 = .slice A l c := by
    rcases open_slice hu2 t2 with ⟨h, _⟩ | ⟨a, l, c, _, _, _, _, h, _⟩
    · injection h with h _
      exact ⟨_, _, _, h⟩
    · injection h with h _
      exact ⟨_, _, _, h⟩
  obtain ⟨A, l, c, rfl⟩ := hsl
  obtain ⟨xs, hl, hb, hr, hc, hm, _⟩ := open_nats (enc := enc) hu2 he8 hc8 rfl (d := y2.1) (p := y2.2) ⟨n2, t2⟩
  have hz0 : 0 ≤ z0 ∧ z0.toNat < 256 := by simp [Lit.wf, IntKind.min, IntKind.max, IntKind.signed, IntKind.bits] at w0; omega
  refine ⟨⟨z0.toNat, z1, A, c, xs, z3⟩, ⟨w1, hz0.2, by simpa [IntKind.bits] using hb, by dsimp only; omega, hm, hr, w3⟩, fun j u hu => ?_⟩
  unfold callAVals at hu
  dsimp only at hu
  rw [hl, Int.toNat_of_nonneg hz0.1] at hu
  match j, hu with
  | 0, hu => simp at hu; rw [← hu]; exact c0
  | 1, hu => simp at hu; rw [← hu]; exact c1
  | 2, hu => simp at hu; rw [← hu]; exact c2
  | 3, hu => simp at hu; rw [← hu]; exact c3
  | j + 4, hu => simp at hu
theorem open_calls {t e q0 q1 q2 q3 e8 : TypeId} {fs : Array Field} {W : World} {a : Option Addr} {len cap : Nat} {d : DataW H} {p : List MemPlace} (ht : P.underlying t = some (.slice e)) (he : P.underlying e = some (.struct fs))
    (hone : oneCellFields P fs = true) (hC : P.cellsOf e = fs.size) (hf : fs.toList.map (fun f : Field => f.type) = [q0, q1, q2, q3])
    (hu0 : P.underlying q0 = some (.int .u8)) (hu1 : P.underlying q1 = some (.int .i64)) (hu2 : P.underlying q2 = some (.slice e8)) (he8 : P.underlying e8 = some (.int .u8)) (hc8 : P.cellsOf e8 = 1) (hu3 : P.underlying q3 = some (.int .i64))
    (h : DataW.Trod enc P W 0 (fun _ => true) true t (.slice a len cap) d p) :
    ∃ R : List CallA, R.length = len ∧ (∀ r ∈ R, CallAOk W r) ∧ Rd W a (R.flatMap callAVals) ∧ len ≤ cap ∧ cap ≤ maxLen ∧ SizeOf d len cap := by
  have hfs : fs.size = 4 := by have := congrArg List.length hf; simpa using this
  have hty : ∀ (j : Nat) (q : TypeId), [q0, q1, q2, q3][j]? = some q → ∃ f : Field, fs[j]? = some f ∧ f.type = q := fun j q hj => by
    have := congrArg (fun l => l[j]?) hf
    simp only [List.getElem?_map, Array.getElem?_toList] at this
    rw [hj] at this
    cases hq : fs[j]? with
    | none => rw [hq] at this; cases this
    | some f => rw [hq] at this; injection this with this; exact ⟨f, rfl, this⟩
  obtain ⟨fuel, hh⟩ := h
  rcases open_slice_fields ht he hone hC hh with ⟨hcs, hx⟩ | ⟨a', l, c, m, D, Pl, hcs, _, hl, hm, hmm, hx, hall⟩
  · simp [Value.cells] at hcs
    obtain ⟨rfl, rfl, rfl⟩ := hcs
    simp only [Prod.mk.injEq] at hx
    exact ⟨[], rfl, fun r hr => by simp at hr, Rd.nil _ _, Nat.le_refl _, Nat.zero_le _, .inl ⟨hx.1, rfl, rfl⟩⟩
  · simp [Value.cells] at hcs
    obtain ⟨rfl, rfl, rfl⟩ := hcs
    simp only [Prod.mk.injEq] at hx
    simp only [if_true] at hmm
    subst hmm
    have hz : ∀ i, ∃ r : CallA, i < len → CallAOk W r ∧ ∀ j u, (callAVals r)[j]? = some u → W.cell? (a'.add (i * 4 + j)) = some u := fun i => by
      by_cases hi : i < len
      · obtain ⟨ys, n, _, _, _, hfj⟩ := hall i (by omega)
        rw [hfs] at hfj
        obtain ⟨f0, g0, rfl⟩ := hty 0 q0 rfl
        obtain ⟨f1, g1, rfl⟩ := hty 1 q1 rfl
        obtain ⟨f2, g2, rfl⟩ := hty 2 q2 rfl
        obtain ⟨f3, g3, rfl⟩ := hty 3 q3 rfl
        obtain ⟨v0, y0, c0, _, t0⟩ := hfj 0 f0 g0
        obtain ⟨v1, y1, c1, _, t1⟩ := hfj 1 f1 g1
        obtain ⟨v2, y2, c2, _, t2⟩ := hfj 2 f2 g2
        obtain ⟨v3, y3, c3, _, t3⟩ := hfj 3 f3 g3
        obtain ⟨r, hr⟩ := calla_at hu0 hu1 hu2 he8 hc8 hu3 c0 c1 c2 c3 t0 t1 t2 t3
        exact ⟨r, fun _ => hr⟩
      · exact ⟨⟨0, 0, none, 0, [], 0⟩, fun h => absurd h hi⟩
    obtain ⟨Z, hZ⟩ := Classical.axiomOfChoice hz
    refine ⟨(List.range len).map Z, by simp, fun r hr => ?_, ?_, hl, hm, .inr ⟨_, _, hx.1, by simp, by simp; omega⟩⟩
    · obtain ⟨i, hi, rfl⟩ := List.mem_map.1 hr
      exact (hZ i (List.mem_range.1 hi)).1
    · refine rd_of_cells fun q u hu => ?_
      obtain ⟨i, j, r, rfl, hj, hi, hu⟩ := flat_at callAVals 4 _ (fun r _ => rfl) q u hu
      have hil : i < len := by have := (List.getElem?_eq_some_iff.1 hi).1; simpa using this
      have hr : r = Z i := by
        rw [List.getElem?_map, List.getElem?_range hil] at hi
        injection hi with hi
        exact hi.symm
      subst hr
      exact (hZ i hil).2 j u hu
end
end

section
open Go.RowKit

theorem readL_app : ∀ (l : List CCall) (xs ys : List (List Nat)), (readL l xs).2 = false → readL l (xs ++ ys) = readL (readL l xs).1 ys
  | l, [], ys, _ => by rw [List.nil_append]; simp [readL]
  | l, x :: xs, ys, h => by
    cases hx : decC x with
    | none =>
      have e : ∀ zs, readL l (x :: zs) = (l, true) := fun zs => by simp [readL, hx]
      rw [e] at h
      cases h
    | some c =>
      have e : ∀ zs, readL l (x :: zs) = readL (l ++ [c]) zs := fun zs => by simp [readL, hx]
      rw [e] at h
      rw [List.cons_append, e, e]
      exact readL_app (l ++ [c]) xs ys h
def payC (c : CCall) : List Nat := reqB c.op c.pol c.key c.num
theorem readL_all : ∀ (cs l : List CCall), (∀ c ∈ cs, NormC c.op c.pol c.key c.num) → readL l (cs.map payC) = (l ++ cs, false)
  | [], l, _ => by rw [List.map_nil, readL, List.append_nil]
  | c :: cs, l, h => by
    rw [List.map_cons]
    unfold readL
    rw [show decC (payC c) = some c from decC_of (h c List.mem_cons_self)]
    dsimp only
    rw [readL_all cs (l ++ [c]) (fun d hd => h d (List.mem_cons_of_mem _ hd)), List.append_assoc]
    rfl
/-- the whole stream: requests, a broken frame, and whatever -/
def strm (cs : List CCall) (rest : List Nat) : List Nat := flatF (cs.map payC) ++ ([0, 0, 0, 0] ++ rest)
theorem parse_strm : ∀ (cs : List CCall) (rest : List Nat), (∀ c ∈ cs, NormC c.op c.pol c.key c.num) → (parse (strm cs rest)).1 = cs.map payC ∧ (parse (strm cs rest)).2.2 = true
  | [], rest, _ => by
    have h := parse_broken 0 rest (by omega) (.inl rfl)
    have e : strm [] rest = len4 0 ++ rest := rfl
    rw [e, h]
    exact ⟨rfl, rfl⟩
  | c :: cs, rest, h => by
    obtain ⟨-, l1, l2, -⟩ := norm_len' (h c List.mem_cons_self)
    have e : strm (c :: cs) rest = len4 (payC c).length ++ (payC c ++ strm cs rest) := by simp [strm, flatF, List.append_assoc]
    have ih := parse_strm cs rest (fun d hd => h d (List.mem_cons_of_mem _ hd))
    rw [e, parse_enc (payC c) _ l1 (by unfold payC; omega)]
    exact ⟨by rw [ih.1]; rfl, ih.2⟩
/-- a part of the stream is read without a fault -/
theorem read_part {cs : List CCall} {rest xs ys : List Nat} (h : ∀ c ∈ cs, NormC c.op c.pol c.key c.num) (he : xs ++ ys = strm cs rest) :
    (readL [] (parse xs).1).2 = false ∧ (parse xs).1.length ≤ cs.length ∧ ((parse xs).2.2 = true → (readL [] (parse xs).1).1 = cs) := by
  obtain ⟨p1, p2⟩ := parse_strm cs rest h
  obtain ⟨k1, k2⟩ := parse_app (xs.length + 1) xs ys (by omega)
  rw [he] at k1 k2
  have hpre : ∃ zs, cs.map payC = (parse xs).1 ++ zs := by
    cases hb : (parse xs).2.2 with
    | true => exact ⟨[], by rw [List.append_nil, ← (k1 hb).1, p1]⟩
    | false => exact ⟨_, by rw [← p1]; exact (k2 hb).1⟩
  obtain ⟨zs, hz⟩ := hpre
  have hl := congrArg List.length hz
  rw [List.length_map, List.length_append] at hl
  have hx : (parse xs).1 = (cs.take (parse xs).1.length).map payC := by
    rw [List.map_take, hz, List.take_left]
  have hr := readL_all (cs.take (parse xs).1.length) [] (fun c hc => h c (List.mem_of_mem_take hc))
  rw [← hx, List.nil_append] at hr
  refine ⟨by rw [hr], by omega, fun hb => ?_⟩
  rw [hr]
  have : (parse xs).1 = cs.map payC := by rw [← (k1 hb).1, p1]
  rw [this, List.length_map, List.take_of_length_le (Nat.le_refl _)]
/-- fed so far -/
noncomputable def upS (xs : List Nat) : CSt := fedS cInit xs
theorem fedS_eq (s : CSt) (al : List Nat) : fedS s al = ⟨leftF al, (parse al).2.2, (readL s.line (parse al).1).1, if (readL s.line (parse al).1).2 = true then 3 else finF al, s.out, s.wr, s.led, s.closed, s.hung⟩ := rfl
theorem up_more {xs ys : List Nat} (h1 : (parse xs).2.2 = false) (h2 : (readL [] (parse xs).1).2 = false) : fedS (upS xs) ((upS xs).ws ++ ys) = upS (xs ++ ys) := by
  obtain ⟨k1, k2, k3, k4⟩ := parse_step (ys := ys) h1
  have kf : finF (xs ++ ys) = finF (leftF xs ++ ys) := by
    have := finF_int (xs ++ ys)
    rw [k2, ← finF_int] at this
    omega
  have hws : (upS xs).ws = leftF xs := rfl
  have hl : (upS xs).line = (readL [] (parse xs).1).1 := rfl
  have hr := readL_app [] (parse xs).1 (parse (leftF xs ++ ys)).1 h2
  rw [← k1] at hr
  rw [hws]
  show fedS (upS xs) (leftF xs ++ ys) = fedS cInit (xs ++ ys)
  rw [fedS_eq, fedS_eq, hl, k3, k4, ← hr, kf]
  rfl
theorem up_fin {xs : List Nat} (h : (readL [] (parse xs).1).2 = false) : (upS xs).fin = finF xs := by
  show (if (readL [] (parse xs).1).2 = true then 3 else finF xs) = finF xs
  rw [if_neg (by rw [h]; exact Bool.false_ne_true)]
theorem up_bad {xs : List Nat} (h : (readL [] (parse xs).1).2 = false) (hb : (parse xs).2.2 = true) : (upS xs).fin = 12 := by
  rw [up_fin h]
  unfold finF
  rw [if_pos hb]
theorem up_ok {xs : List Nat} (h : (readL [] (parse xs).1).2 = false) (hb : (parse xs).2.2 = false) : (upS xs).fin = 0 := by
  rw [up_fin h]
  unfold finF
  rw [if_neg (by rw [hb]; exact Bool.false_ne_true)]
theorem cinv_up {xs : List Nat} (hb : ∀ x ∈ xs, x < 256) : CInv (upS xs) := by
  have := cinv_fed cinv_init hb
  exact this
theorem up_len (xs : List Nat) : (upS xs).ws.length ≤ xs.length := (leftF_small xs).1
theorem step_app_crow {ops : Array Oper} {o : Oper} {a : Act} {K : Act → World → Prop} {Q : Exit → Act → World → Prop} {E : Prop} (w : World) (hgd : o.guard = none) (s x : Operand)
    (ho : o.op = .call { callee := .builtin .append, args := #[s, x], argTypes := #[82, 82] })
    (base : Nat) {B : Option Addr} {n cb : Nat} {xs : List Value} (hs : a.eval s = .slice B n cb) (hown : w.ownsRow base 63 4 (.slice B n cb) n xs)
    {A : Option Addr} {c : Nat} {y z u v : Value} (hx : a.eval x = .slice A 1 c) (hr : Rd w A [y, z, u, v]) (hy : y.oneCell' = true) (hz : z.oneCell' = true) (hu : u.oneCell' = true) (hv : v.oneCell' = true) (hb : n ≤ 100000) (hbase : base ≤ w.heap.size)
    (h : ∀ B' cb' w', w'.ownsRow base 63 4 (.slice B' (n + 1) cb') (n + 1) (xs ++ [y, z, u, v]) → w.grownBy w' (Value.slice B n cb).ownBlock →
      ((Value.slice B' (n + 1) cb').ownBlock = (Value.slice B n cb).ownBlock ∨ (Value.slice B' (n + 1) cb').ownBlock = some w.heap.size) → K (a.put o.dst (.slice B' (n + 1) cb')) w') :
    if Region.wanted o (yielded ops a.tmps) = true then Oper.wp Try.prog o a w K Q else E := by
  have hw : Region.wanted o (yielded ops a.tmps) = true := by simp [Region.wanted, hgd]
  rw [if_pos hw]
  obtain ⟨i0, hi, hz0, hz1, hz2⟩ := info_parts cl_info
  exact wp_append_rd w s x 82 ho base 63 Try.underlying82 hi hz0 hz1 hz2 rfl (by decide) hs hown hx (m := 1) (news := [y, z, u, v]) rfl hr (by intro q hq; simp at hq; rcases hq with rfl | rfl | rfl | rfl <;> assumption) (by unfold maxLen; omega) (by omega) hbase h
/-- what was sent has the operations of what is read -/
def SameOp (qs : List CallA) (cs : List CCall) : Prop := ∀ (i : Nat) (q : CallA) (c : CCall), qs[i]? = some q → cs[i]? = some c → q.op = c.op
theorem SameOp.snoc {qs : List CallA} {cs : List CCall} (h : SameOp qs cs) (hl : qs.length = cs.length) {q : CallA} {c : CCall} (hq : q.op = c.op) : SameOp (qs ++ [q]) (cs ++ [c]) := fun i q' c' h1 h2 => by
  rcases Nat.lt_or_ge i qs.length with hi | hi
  · rw [List.getElem?_append_left hi] at h1
    rw [List.getElem?_append_left (by omega)] at h2
    exact h i q' c' h1 h2
  · rw [List.getElem?_append_right hi] at h1
    rw [List.getElem?_append_right (by omega), ← hl] at h2
    have h0 : i - qs.length = 0 := by
      have := (List.getElem?_eq_some_iff.1 h1).1
      simp at this
      omega
    rw [h0] at h1 h2
    simp at h1 h2
    rw [← h1, ← h2]
    exact hq
/-- what Reply answers is known ahead of the call -/
theorem rep_call (e : Int) (g : Bool) (l t s n : Int) : ∃ q B, RepIs e g [l, t, s, n] q B ∧ ∀ u, Calls Try.prog 42 #[.agg #[.int .i64 e, .bool g, .int .i64 l, .int .i64 t, .int .i64 s, .int .i64 n]] u (RetBE B q u) := by
  obtain ⟨q, B, h⟩ : ∃ q B, RepIs e g [l, t, s, n] q B := by
    by_cases hok : 0 ≤ e ∧ e ≤ 16 ∧ ∀ x ∈ [l, t, s, n], okN x
    · have h1 := hok.2.2 l (by simp); have h2 := hok.2.2 t (by simp); have h3 := hok.2.2 s (by simp); have h4 := hok.2.2 n (by simp)
      unfold okN at h1 h2 h3 h4
      refine ⟨0, _, .inr ⟨rfl, hok.1, hok.2.1, [l.toNat, t.toNat, s.toNat, n.toNat], ⟨rfl, ?_, fun x hx => ?_⟩, rfl⟩⟩
      · simp only [List.map_cons, List.map_nil, List.take_succ_cons, List.take_zero]
        rw [Int.toNat_of_nonneg h1.1, Int.toNat_of_nonneg h2.1, Int.toNat_of_nonneg h3.1, Int.toNat_of_nonneg h4.1]
      · simp at hx
        omega
    · exact ⟨1, [], .inl ⟨rfl, rfl, hok⟩⟩
  refine ⟨q, B, h, fun u => ?_⟩
  have hc : Calls Try.prog 42 #[.agg #[.int .i64 e, .bool g, .int .i64 l, .int .i64 t, .int .i64 s, .int .i64 n]] u (RetRep e g [l, t, s, n] u) := by
    by_cases he : e < 0 ∨ 16 < e
    · refine (reply_e u e g l t s n he).mono ?_
      intro x w' h
      exact ⟨1, [], .inl ⟨rfl, rfl, fun h => by omega⟩, h⟩
    · obtain ⟨k, rfl⟩ : ∃ k : Nat, e = (k : Int) := ⟨e.toNat, by omega⟩
      cases g
      · exact reply_false u k l t s n (by omega)
      · exact reply_true u k l t s n (by omega)
  refine hc.mono ?_
  rintro x w' ⟨q', B', k1, k2⟩
  obtain ⟨rfl, rfl⟩ := rep_one rfl h k1
  exact k2
/-- what a reply leaves -/
theorem replied_any {s : CSt} (c : CCall) (e sn : Int) (B : List Nat) (hh : s.hung = false) : (repliedS s c e sn B).wr = s.wr ++ (len4 B.length ++ B) ∧ (repliedS s c e sn B).out = none ∧ (repliedS s c e sn B).line = s.line ∧ (repliedS s c e sn B).fin = s.fin ∧ (repliedS s c e sn B).closed = s.closed ∧ (repliedS s c e sn B).hung = s.hung ∧ (repliedS s c e sn B).led.length ≤ s.led.length + 1 := by
  unfold repliedS
  have hw : wrote s 0 B = { s with wr := s.wr ++ (len4 B.length ++ B) } := by unfold wrote; rw [if_pos ⟨rfl, hh⟩]
  rw [hw]
  split
  · split
    · exact ⟨rfl, rfl, rfl, rfl, rfl, rfl, by simp⟩
    · split
      · refine ⟨rfl, rfl, rfl, rfl, rfl, rfl, ?_⟩
        dsimp only
        split
        · omega
        · have := List.length_eraseIdx_le s.led ‹Nat›
          omega
      · exact ⟨rfl, rfl, rfl, rfl, rfl, rfl, by dsimp only; omega⟩
  · exact ⟨rfl, rfl, rfl, rfl, rfl, rfl, by dsimp only; omega⟩
end

section
open Go.RowKit
open Go.ChangeShapes Go.WideShapes Go.ChangeAt Go.Deep

structure RepA where
  e : Int
  g : Bool
  l : Int
  t : Int
  s : Int
  n : Int
def repAVals (r : RepA) : List Value := [.int .i64 r.e, .bool r.g, .int .i64 r.l, .int .i64 r.t, .int .i64 r.s, .int .i64 r.n]
section
variable {H : Type} {enc : TypeId × Value → H} {P : Program}
theorem open_reps {t e q0 q1 q2 q3 q4 q5 : TypeId} {fs : Array Field} {W : World} {a : Option Addr} {len cap : Nat} {d : DataW H} {p : List MemPlace} (ht : P.underlying t = some (.slice e)) (he : P.underlying e = some (.struct fs))
    (hone : oneCellFields P fs = true) (hC : P.cellsOf e = fs.size) (hf : fs.toList.map (fun f : Field => f.type) = [q0, q1, q2, q3, q4, q5])
    (hu0 : P.underlying q0 = some (.int .i64)) (hu1 : P.underlying q1 = some .bool) (hu2 : P.underlying q2 = some (.int .i64)) (hu3 : P.underlying q3 = some (.int .i64)) (hu4 : P.underlying q4 = some (.int .i64)) (hu5 : P.underlying q5 = some (.int .i64))
    (h : DataW.Trod enc P W 0 (fun _ => true) true t (.slice a len cap) d p) :
    ∃ R : List RepA, R.length = len ∧ Rd W a (R.flatMap repAVals) ∧ len ≤ cap ∧ cap ≤ maxLen ∧ SizeOf d len cap := by
  have hfs : fs.size = 6 := by have := congrArg List.length hf; simpa using this
  have hty : ∀ (j : Nat) (q : TypeId), [q0, q1, q2, q3, q4, q5][j]? = some q → ∃ f : Field, fs[j]? = some f ∧ f.type = q := fun j q hj => by
    have := congrArg (fun l => l[j]?) hf
    simp only [List.getElem?_map, Array.getElem?_toList] at this
    rw [hj] at this
    cases hq : fs[j]? with
    | none => rw [hq] at this; cases this
    | some f => rw [hq] at this; injection this with this; exact ⟨f, rfl, this⟩
  obtain ⟨fuel, hh⟩ := h
  rcases open_slice_fields ht he hone hC hh with ⟨hcs, hx⟩ | ⟨a', l, c, m, D, Pl, hcs, _, hl, hm, hmm, hx, hall⟩
  · simp [Value.cells] at hcs
    obtain ⟨rfl, rfl, rfl⟩ := hcs
    simp only [Prod.mk.injEq] at hx
    exact ⟨[], rfl, Rd.nil _ _, Nat.le_refl _, Nat.zero_le _, .inl ⟨hx.1, rfl, rfl⟩⟩
  · simp [Value.cells] at hcs
    obtain ⟨rfl, rfl, rfl⟩ := hcs
    simp only [Prod.mk.injEq] at hx
    simp only [if_true] at hmm
    subst hmm
    have hz : ∀ i, ∃ r : RepA, i < len → ∀ j u, (repAVals r)[j]? = some u → W.cell? (a'.add (i * 6 + j)) = some u := fun i => by
      by_cases hi : i < len
      · obtain ⟨ys, n, _, _, _, hfj⟩ := hall i (by omega)
        rw [hfs] at hfj
        obtain ⟨f0, g0, rfl⟩ := hty 0 q0 rfl
        obtain ⟨f1, g1, rfl⟩ := hty 1 q1 rfl
        obtain ⟨f2, g2, rfl⟩ := hty 2 q2 rfl
        obtain ⟨f3, g3, rfl⟩ := hty 3 q3 rfl
        obtain ⟨f4, g4, rfl⟩ := hty 4 q4 rfl
        obtain ⟨f5, g5, rfl⟩ := hty 5 q5 rfl
        obtain ⟨v0, y0, c0, _, t0⟩ := hfj 0 f0 g0
        obtain ⟨v1, y1, c1, _, t1⟩ := hfj 1 f1 g1
        obtain ⟨v2, y2, c2, _, t2⟩ := hfj 2 f2 g2
        obtain ⟨v3, y3, c3, _, t3⟩ := hfj 3 f3 g3
        obtain ⟨v4, y4, c4, _, t4⟩ := hfj 4 f4 g4
        obtain ⟨v5, y5, c5, _, t5⟩ := hfj 5 f5 g5
        obtain ⟨z0, h0, _, _⟩ := DataW.trod_int hu0 t0
        obtain ⟨z1, h1, _⟩ := DataW.trod_bool hu1 t1
        obtain ⟨z2, h2, _, _⟩ := DataW.trod_int hu2 t2
        obtain ⟨z3, h3, _, _⟩ := DataW.trod_int hu3 t3
        obtain ⟨z4, h4, _, _⟩ := DataW.trod_int hu4 t4
        obtain ⟨z5, h5, _, _⟩ := DataW.trod_int hu5 t5
        injection h0 with h0 _; injection h1 with h1 _; injection h2 with h2 _; injection h3 with h3 _; injection h4 with h4 _; injection h5 with h5 _
        subst h0 h1 h2 h3 h4 h5
        refine ⟨⟨z0, z1, z2, z3, z4, z5⟩, fun _ j u hu => ?_⟩
        unfold repAVals at hu
        match j, hu with
        | 0, hu => simp at hu; rw [← hu]; exact c0
        | 1, hu => simp at hu; rw [← hu]; exact c1
        | 2, hu => simp at hu; rw [← hu]; exact c2
        | 3, hu => simp at hu; rw [← hu]; exact c3
        | 4, hu => simp at hu; rw [← hu]; exact c4
        | 5, hu => simp at hu; rw [← hu]; exact c5
        | j + 6, hu => simp at hu
      · exact ⟨⟨0, false, 0, 0, 0, 0⟩, fun h => absurd h hi⟩
    obtain ⟨Z, hZ⟩ := Classical.axiomOfChoice hz
    refine ⟨(List.range len).map Z, by simp, ?_, hl, hm, .inr ⟨_, _, hx.1, by simp, by simp; omega⟩⟩
    refine rd_of_cells fun q u hu => ?_
    obtain ⟨i, j, r, rfl, hj, hi, hu⟩ := flat_at repAVals 6 _ (fun r _ => rfl) q u hu
    have hil : i < len := by have := (List.getElem?_eq_some_iff.1 hi).1; simpa using this
    have hr : r = Z i := by
      rw [List.getElem?_map, List.getElem?_range hil] at hi
      injection hi with hi
      exact hi.symm
    subst hr
    exact hZ i hil j u hu
end
end
end Go.Proofs.Ythkdjjfnmlemdaa
