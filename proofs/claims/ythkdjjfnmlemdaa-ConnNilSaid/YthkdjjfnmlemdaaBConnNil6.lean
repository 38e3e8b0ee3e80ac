/- Laid together: what 'ConnNil' needs, part 6 of 7. -/
import Derived.Lib.SlBytesConst
import Derived.Test.YthkdjjfnmlemdaaBConnNil3
import Derived.Test.YthkdjjfnmlemdaaBConnNil4
import Derived.Test.YthkdjjfnmlemdaaBConnNil5
namespace Go.Proofs.Ythkdjjfnmlemdaa

section
open Go.RowKit

theorem PL.gb {w w' : World} {base : Nat} {A : Option Addr} {n c : Nat} {pss : List (List Nat)} {T : Nat → Prop} (h : PL w base A n c pss) (g : GB w w' T) (hT : ∀ b, T b → b < base) : PL w' base A n c pss := by
  obtain ⟨h1, vs, gs, h2, h3, h4, h5, h6⟩ := h
  refine ⟨h1, vs, gs, g.own h2 (fun b e t => by have := (h2.lt b e).1; have := hT b t; omega), h3, h4, fun b hb => Nat.lt_of_lt_of_le (h5 b hb) g.size, fun i ps hi => ?_⟩
  obtain ⟨q, ci, k1, k2, k3⟩ := h6 i ps hi
  exact ⟨q, ci, k1, k2, g.own k3 (fun b e t => by have := (k3.lt b e).1; have := hT b t; omega)⟩
def finF (ws : List Nat) : Nat := if (parse ws).2.2 = true then 12 else 0
theorem finF_int (ws : List Nat) : ((finF ws : Nat) : Int) = endF ws := by
  unfold finF endF
  split <;> rfl
/-- the reader went on -/
theorem ConnAt.fed {w : World} {base gc r : Nat} {L : List (Option Nat)} {RO : Nat → Prop} {s : CSt} (h : ConnAt w base L RO gc r s) :
    w.cell? ⟨gc, 0, none⟩ = some (.pointer (some ⟨r, 0, none⟩)) ∧ w.cell? ⟨gc, 2, none⟩ = some (.int .i64 (s.fin : Int)) ∧ w.cell? ⟨gc, 6, none⟩ = some (.bool s.closed) ∧ (∃ S, IsRdr w r s.ws s.cl S) ∧ gc ≠ r ∧ some r ∈ L ∧
      ∀ (w1 : World) (ws : List Nat) (cl : Bool) (S : Nat), w.grownBy w1 (some r) → S ≤ w1.heap.size → IsRdr w1 r ws cl (fun b => w.heap.size ≤ b ∧ b < S) → ConnAt w1 base L (fun b => RO b ∨ (w.heap.size ≤ b ∧ b < S)) gc r { s with ws := ws, cl := cl } := by
  obtain ⟨S0, lv, ov, lob, lk, tk, WA, TA, wn, wc, tn, tc, h1, h2, h3, h4, h5, h6, h7, h8, h9, h10, h11, h12, h13, h14, h15, h16, h17, h18, h19⟩ := h
  have h2' := h2
  rw [h1] at h2'
  obtain ⟨a1, a2, a3, a4⟩ := apart5 h2'
  have hrL : some r ∈ L := by rw [h1]; simp
  refine ⟨blk_cell h3 0, blk_cell h3 2, blk_cell h3 6, ⟨S0, h4⟩, a1, hrL, fun w1 ws cl S g1 hS hr => ?_⟩
  have g : GB w w1 (· = r) := (GB.refl w _).grown g1 (fun q e => by injection e with e; exact .inl e.symm)
  have hR : ∀ b, RO b → ¬ b = r := fun b hb e => (h18 b hb).1 (by rw [h1, e]; simp)
  have hgc := (h19 gc (by rw [h1]; simp))
  refine ⟨fun b => w.heap.size ≤ b ∧ b < S, lv, ov, lob, lk, tk, WA, TA, wn, wc, tn, tc, h1, h2, g.blk h3 a1, hr, fun b hb => .inr hb, h6, h7.gb g (fun b e => (a2 b e).2), h8.gbk h9 g hR, fun k hk a e => .inl (h9 k hk a e), ?_, h11, g.own h12 (fun b e => (a3 b e).2.1), h13, h14, g.own h15 (fun b e => (a4 b e).2.1), h16.gbk h17 g hR, fun k hk a e => .inl (h17 k hk a e), fun b hb => ?_, fun b hb => ⟨(h19 b hb).1, Nat.lt_of_lt_of_le (h19 b hb).2 g.size⟩⟩
  · have o1 := h10.gbk g hR
    revert o1
    cases s.out with
    | none => exact id
    | some c =>
      rintro ⟨o, k, e1, e2, e3, e4, e5, e6⟩
      exact ⟨o, k, e1, e2, e3, e4, .inl e5, fun a e => .inl (e6 a e)⟩
  · rcases hb with hb | hb
    · exact ⟨(h18 b hb).1, (h18 b hb).2.1, Nat.lt_of_lt_of_le (h18 b hb).2.2 g.size⟩
    · exact ⟨fun e => by have := (h19 b e).2; omega, by omega, by omega⟩
/-- the line, and what it may become -/
theorem ConnAt.lines {w : World} {base gc r : Nat} {L : List (Option Nat)} {RO : Nat → Prop} {s : CSt} (h : ConnAt w base L RO gc r s) :
    ∃ (lv : Value) (lob : Option Nat) (lk : List KRef), w.cell? ⟨gc, 1, none⟩ = some lv ∧ w.frozen? ⟨gc, 1, none⟩ = false ∧ (∀ b, lob = some b → some b ∈ L ∧ b ≠ gc) ∧ OffS w 4 lob lv s.line.length (callsV lk s.line) ∧ lk.length = s.line.length ∧
      ∀ (w3 : World) (v' : Value) (ob' : Option Nat) (K : Option Addr) (kc : Nat) (c : CCall), OffS w3 4 ob' v' (s.line.length + 1) (callsV lk s.line ++ callC (K, kc) c) → GB w w3 (fun b => lob = some b) → (∀ b, ob' = some b → lob = some b ∨ w.heap.size ≤ b) →
        c.key.length ≤ kc → Rd w3 K (vals .u8 c.key) → (∀ a, K = some a → some a.block ∉ L ∧ base ≤ a.block ∧ a.block < w.heap.size) →
        ConnAt (w3.setCell ⟨gc, 1, none⟩ v') base ([some gc, some r, ob'] ++ L.drop 3) (fun b => RO b ∨ ∃ a, K = some a ∧ a.block = b) gc r { s with line := s.line ++ [c] } ∧ GB w (w3.setCell ⟨gc, 1, none⟩ v') (fun b => some b ∈ L) ∧ ∀ b, some b ∈ [some gc, some r, ob'] ++ L.drop 3 → some b ∈ L ∨ w.heap.size ≤ b := by
  obtain ⟨S, lv, ov, lob, lk, tk, WA, TA, wn, wc, tn, tc, h1, h2, h3, h4, h5, h6, h7, h8, h9, h10, h11, h12, h13, h14, h15, h16, h17, h18, h19⟩ := h
  rw [h1] at h2
  obtain ⟨a1, a2, a3, a4⟩ := apart5 h2
  have hgcl := (h19 gc (by rw [h1]; simp))
  have hwL : ∀ b, lob = some b → some b ∈ L := fun b e => by rw [h1, ← e]; simp
  refine ⟨lv, lob, lk, blk_cell h3 1, blk_frozen h3 1, fun b e => ⟨hwL b e, (a2 b e).1⟩, h7, h6, fun w3 v' ob' K kc c ho g hb hkc hkr hK => ?_⟩
  have g2 : GB w (w3.setCell ⟨gc, 1, none⟩ v') (fun b => b = gc ∨ lob = some b) := (g.more (fun b _ e => .inr e)).trans ((GB.refl w3 (· = gc)).set gc 1 _ (.inl rfl)) (fun b e => .inl (.inl e))
  have gs : GB w3 (w3.setCell ⟨gc, 1, none⟩ v') (· = gc) := (GB.refl w3 (· = gc)).set gc 1 _ (.inl rfl)
  have hR : ∀ b, RO b → ¬ (b = gc ∨ lob = some b) := fun b hb e => (h18 b hb).1 (e.elim (fun e => by rw [h1, e]; simp) (hwL b))
  have hsz := g.size
  have hlt : ∀ b, some b ∈ L → b < w.heap.size := fun b e => (h19 b e).2
  have hnew : ∀ q, ob' = some q → q ≠ gc ∧ q ≠ r := fun q e => (hb q e).elim (fun e => a2 q e) (fun e => ⟨fun e2 => by omega, fun e2 => by have := (h19 r (by rw [h1]; simp)).2; omega⟩)
  have hnot : ∀ q, ob' = some q → (Value.slice WA wn wc).ownBlock ≠ some q ∧ (Value.slice TA tn tc).ownBlock ≠ some q := fun q e => (hb q e).elim (fun e => ⟨fun e2 => (a3 q e2).2.2 e, fun e2 => (a4 q e2).2.2.1 e⟩) (fun e => ⟨fun e2 => by have := (h19 q (by rw [h1, ← e2]; simp)).2; omega, fun e2 => by have := (h19 q (by rw [h1, ← e2]; simp)).2; omega⟩)
  have hL' : [some gc, some r, ob'] ++ L.drop 3 = [some gc, some r, ob', (Value.slice WA wn wc).ownBlock, (Value.slice TA tn tc).ownBlock] := by rw [h1]; rfl
  have hmem : ∀ b, some b ∈ [some gc, some r, ob'] ++ L.drop 3 → some b ∈ L ∨ w.heap.size ≤ b := fun b hb' => by
    rw [hL'] at hb'
    rcases List.mem_cons.1 hb' with e | hb'
    · exact .inl (by rw [e, h1]; simp)
    · rcases List.mem_cons.1 hb' with e | hb'
      · exact .inl (by rw [e, h1]; simp)
      · rcases List.mem_cons.1 hb' with e | hb'
        · exact (hb b e.symm).imp (hwL b) id
        · exact .inl (by rw [h1]; exact List.mem_cons_of_mem _ (List.mem_cons_of_mem _ (List.mem_cons_of_mem _ hb')))
  have hKg : ∀ a, K = some a → ¬ a.block = gc := fun a e e2 => (hK a e).1 (by rw [e2, h1]; simp)
  have hKb : ∀ a, K = some a → ¬ (some a.block ∈ [some gc, some r, ob'] ++ L.drop 3) := fun a e e2 => (hmem _ e2).elim (hK a e).1 (fun e3 => by have := (hK a e).2.2; omega)
  refine ⟨?_, g2.more (fun b _ e => e.elim (fun e => by rw [h1, e]; simp) (hwL b)), hmem⟩
  refine ⟨S, v', ov, ob', lk ++ [(K, kc)], tk, WA, TA, wn, wc, tn, tc, hL', ?_, blk_set (g.blk h3 (fun e => (a2 gc e).1 rfl)) 1 _, IsRdr.gb h4 g2 (fun e => e.elim (fun e => a1 e.symm) (fun e => (a2 r e).2 rfl)) (fun b hb => hR b (h5 b hb)), fun b hb => .inl (h5 b hb), by simp [h6], ?_, ?_, ?_, ?_, h11, g2.own h12 (fun b e e2 => e2.elim (fun e2 => (a3 b e).1 e2) (fun e2 => (a3 b e).2.2 e2)), h13, h14, g2.own h15 (fun b e e2 => e2.elim (fun e2 => (a4 b e).1 e2) (fun e2 => (a4 b e).2.2.1 e2)), h16.gbk h17 g2 hR, fun k hk a e => .inl (h17 k hk a e), fun b hbR => ?_, fun b hbL => ?_⟩
  · rw [hL']
    exact apart5_mk a1 hnew (fun q e => ⟨(a3 q e).1, (a3 q e).2.1, fun e2 => (hnot q e2).1 e⟩) (fun q e => ⟨(a4 q e).1, (a4 q e).2.1, (fun e2 => (hnot q e2).2 e), (a4 q e).2.2.2⟩)
  · rw [List.length_append]
    have := ho.gb gs (fun b e => (hnew b e).1)
    unfold callsV at this ⊢
    rw [zipV_snoc callC h6 (K, kc) c]
    exact this
  · refine (h8.gbk h9 g2 hR).snoc h6 hkc (gs.rd hkr hKg)
  · intro k hk a e
    rcases List.mem_append.1 hk with hk | hk
    · exact .inl (h9 k hk a e)
    · rw [List.mem_singleton.1 hk] at e
      exact .inr ⟨a, e, rfl⟩
  · have o1 := h10.gbk g2 hR
    revert o1
    cases s.out with
    | none => exact id
    | some c =>
      rintro ⟨o, k, e1, e2, e3, e4, e5, e6⟩
      exact ⟨o, k, e1, e2, e3, e4, .inl e5, fun a e => .inl (e6 a e)⟩
  · rcases hbR with hbR | ⟨a, e1, e2⟩
    · refine ⟨fun e => (hmem b e).elim (h18 b hbR).1 (fun e => by have := (h18 b hbR).2.2; omega), (h18 b hbR).2.1, Nat.lt_of_lt_of_le (h18 b hbR).2.2 g2.size⟩
    · subst e2
      exact ⟨hKb a e1, (hK a e1).2.1, Nat.lt_of_lt_of_le (hK a e1).2.2 g2.size⟩
  · rcases List.mem_cons.1 (show some b ∈ some gc :: some r :: ob' :: L.drop 3 from hbL) with e | hbL'
    · injection e with e
      subst e
      exact ⟨hgcl.1, Nat.lt_of_lt_of_le hgcl.2 g2.size⟩
    · rcases hmem b hbL with e | e
      · exact ⟨(h19 b e).1, Nat.lt_of_lt_of_le (h19 b e).2 g2.size⟩
      · refine ⟨by omega, ?_⟩
        rw [World.size_setCell]
        rw [hL'] at hbL
        rcases List.mem_cons.1 hbL' with e1 | hbL'
        · injection e1 with e1
          subst e1
          have := hlt b (by rw [h1]; simp)
          omega
        · rcases List.mem_cons.1 hbL' with e1 | hbL'
          · exact ho.lt b e1.symm
          · have : some b ∈ L := List.mem_of_mem_drop hbL'
            have := hlt b this
            omega
/-- what stands behind the line -/
theorem ConnAt.setFin {w : World} {base gc r : Nat} {L : List (Option Nat)} {RO : Nat → Prop} {s : CSt} (h : ConnAt w base L RO gc r s) (e : Nat) :
    ConnAt (w.setCell ⟨gc, 2, none⟩ (.int .i64 (e : Int))) base L RO gc r { s with fin := e } ∧ GB w (w.setCell ⟨gc, 2, none⟩ (.int .i64 (e : Int))) (fun b => some b ∈ L) := by
  obtain ⟨S, lv, ov, lob, lk, tk, WA, TA, wn, wc, tn, tc, h1, h2, h3, h4, h5, h6, h7, h8, h9, h10, h11, h12, h13, h14, h15, h16, h17, h18, h19⟩ := h
  have h2' := h2
  rw [h1] at h2'
  obtain ⟨a1, a2, a3, a4⟩ := apart5 h2'
  have g : GB w (w.setCell ⟨gc, 2, none⟩ (.int .i64 (e : Int))) (· = gc) := (GB.refl w (· = gc)).set gc 2 _ (.inl rfl)
  have hR : ∀ b, RO b → ¬ b = gc := fun b hb e => (h18 b hb).1 (by rw [h1, e]; simp)
  exact ⟨⟨S, lv, ov, lob, lk, tk, WA, TA, wn, wc, tn, tc, h1, h2, blk_set h3 2 _, IsRdr.gb h4 g (fun e => a1 e.symm) (fun b hb => hR b (h5 b hb)), h5, h6, h7.gb g (fun b e => (a2 b e).1), h8.gbk h9 g hR, h9, h10.gbk g hR, h11, g.own h12 (fun b e => (a3 b e).1), h13, h14, g.own h15 (fun b e => (a4 b e).1), h16.gbk h17 g hR, h17, fun b hb => ⟨(h18 b hb).1, (h18 b hb).2.1, by simpa using (h18 b hb).2.2⟩, fun b hb => ⟨(h19 b hb).1, by simpa using (h19 b hb).2⟩⟩, g.more (fun b _ e => by rw [e, h1]; simp)⟩
theorem readL_snoc (y : List Nat) : ∀ (l : List CCall) (xs : List (List Nat)), (readL l xs).2 = false → readL l (xs ++ [y]) = match decC y with | some c => ((readL l xs).1 ++ [c], false) | none => ((readL l xs).1, true)
  | l, [], _ => by
    rw [List.nil_append, readL]
    cases hd : decC y <;> simp [readL, hd]
  | l, x :: xs, h => by
    rw [List.cons_append]
    unfold readL at h ⊢
    cases hx : decC x with
    | none => rw [hx] at h; cases h
    | some c =>
      rw [hx] at h
      dsimp only at h ⊢
      exact readL_snoc y (l ++ [c]) xs h
theorem readL_stop (ys : List (List Nat)) : ∀ (l : List CCall) (xs : List (List Nat)), (readL l xs).2 = true → readL l (xs ++ ys) = readL l xs
  | l, [], h => by cases h
  | l, x :: xs, h => by
    rw [List.cons_append]
    unfold readL at h ⊢
    cases hx : decC x with
    | none => rfl
    | some c =>
      rw [hx] at h
      dsimp only at h ⊢
      exact readL_stop ys (l ++ [c]) xs h
theorem readL_len : ∀ (l : List CCall) (xs : List (List Nat)), (readL l xs).1.length ≤ l.length + xs.length
  | l, [] => by unfold readL; simp
  | l, x :: xs => by
    unfold readL
    cases hx : decC x with
    | none => simp
    | some c =>
      have := readL_len (l ++ [c]) xs
      simp only [List.length_append, List.length_cons, List.length_nil] at this ⊢
      omega
noncomputable def fedS (s : CSt) (al : List Nat) : CSt := { s with ws := leftF al, cl := (parse al).2.2, line := (readL s.line (parse al).1).1, fin := if (readL s.line (parse al).1).2 = true then 3 else finF al }

set_option maxHeartbeats 1000000 in
set_option maxRecDepth 100000 in
theorem cfeed_closed (w : World) (base gc r : Nat) (L : List (Option Nat)) (RO : Nat → Prop) (s : CSt) (h : ConnAt w base L RO gc r s) (hc : s.closed = true ∨ s.fin ≠ 0) (A : Option Addr) (n c : Nat) :
    Calls Try.prog 49 #[.pointer (some ⟨gc, 0, none⟩), .slice A n c] w fun e w' => e = .returned (.int .i64 13) ∧ w = w' := by
  obtain ⟨-, c2, c6, -⟩ := h.fed
  obtain ⟨cl, hcl⟩ : ∃ b, s.closed = b := ⟨_, rfl⟩
  rw [hcl] at hc c6
  clear h hcl
  cases cl with
  | true =>
    clear hc
    go_enter Try.func49, Try.ntmps49
    go_wp2_with fail
    go_ret
    exact ⟨rfl, rfl⟩
  | false =>
    have hf : ¬ s.fin = 0 := hc.elim (fun e => by cases e) id
    have hne : ((s.fin : Int) != 0) = true := by simpa using hf
    clear hc hf
    go_enter Try.func49, Try.ntmps49
    go_wp2_with fail
    go_ret
    exact ⟨rfl, rfl⟩
theorem ConnGo.trans {w w1 w2 : World} {base gc r : Nat} {L : List (Option Nat)} {RO : Nat → Prop} {s s2 : CSt} (h : ConnGo w base L RO gc r s w1) (k : ∀ L1 RO1, ConnAt w1 base L1 RO1 gc r s → ConnGo w1 base L1 RO1 gc r s2 w2) : ConnGo w base L RO gc r s2 w2 := by
  obtain ⟨L1, RO1, h1, h2, h3, h4⟩ := h
  exact conn_go_then h2 h3 h4 (k L1 RO1 h1)
theorem frz_gb {w w' : World} {S : Nat → Prop} {gc i : Nat} {v : Value} (g : GB w w' S) (h : w.cell? ⟨gc, i, none⟩ = some v) (hf : w.frozen? ⟨gc, i, none⟩ = false) (hn : ¬ S gc) : w'.frozen? ⟨gc, i, none⟩ = false := by
  have hb := g.block gc (World.block_lt_of_cell? w _ h) hn
  unfold World.frozen? at hf ⊢
  simp only [hb]
  exact hf
def FeedC (w : World) (base : Nat) (L : List (Option Nat)) (RO : Nat → Prop) (gc r : Nat) (s : CSt) (al : List Nat) (e : Ending) (w' : World) : Prop :=
  e = .returned (.int .i64 0) ∧ ConnGo w base L RO gc r (fedS s al) w'
set_option maxHeartbeats 8000000 in
set_option maxRecDepth 100000 in
theorem cfeed_open (w : World) (base gc r : Nat) (L : List (Option Nat)) (RO : Nat → Prop) (s : CSt) (h : ConnAt w base L RO gc r s) (hi : CInv s) (hc : s.closed = false) (hf : s.fin = 0) (hcl : s.cl = false) (A : Option Addr) (n c : Nat) (xs : List Nat) (hl : xs.length = n) (hb : ∀ x ∈ xs, x < 256) (hr : Rd w A (vals .u8 xs))
    (hN : s.ws.length + n ≤ 5000000000000) (hP : s.line.length + (parse (s.ws ++ xs)).1.length ≤ 1000000) :
    Calls Try.prog 49 #[.pointer (some ⟨gc, 0, none⟩), .slice A n c] w (FeedC w base L RO gc r s (s.ws ++ xs)) := by
  obtain ⟨c0, c2, c6, ⟨S, hrd⟩, hgr, hrL, fed⟩ := h.fed
  have B := h.bounds
  rw [hc] at c6
  rw [hf] at c2
  rw [hcl] at hrd
  have FD := Lib.hid (feed_open w r S s.ws A n c xs hrd hi.1 hl hb hr hN)
  have hba : ∀ x ∈ s.ws ++ xs, x < 256 := fun x hx => (List.mem_append.1 hx).elim (hi.1 x) (hb x)
  obtain ⟨al, Hal⟩ : ∃ al, Hid (s.ws ++ xs = al) := ⟨_, rfl⟩
  rw [Hal.out] at FD hP hba ⊢
  obtain ⟨-, -, hps⟩ := parse_small (al.length + 1) al (by omega)
  have HPS := Lib.hid (show ∀ ps ∈ (parse al).1, ps.length ≤ 4096 ∧ ∀ x ∈ ps, x < 256 from fun ps h => ⟨(hps ps h).1, fun x hx => hba x ((hps ps h).2 x hx)⟩)
  have FED := Lib.hid fed; have BB := Lib.hid B; have H := Lib.hid h
  clear h hrd hi hb hr hl fed B hps hba hc hf hcl
  go_enter Try.func49, Try.ntmps49
  go_wp2_with fail
  refine FD.out.mono ?_
  intro e w1 hF
  obtain ⟨S1, A1, n1, c1, rfl, hn1, hS1, hP1, hR1, hg1⟩ := feedR_any hF
  have hca := FED.out w1 _ _ S1 hg1 hS1.2 hR1
  have g1 : GB w w1 (fun b => some b ∈ L) := (GB.refl w _).grown hg1 (fun q e => by injection e with e; exact .inl (by rw [← e]; exact hrL))
  obtain ⟨en, Hen⟩ : ∃ en, Hid (endF al = ((en : Nat) : Int) ∧ finF al = en) := ⟨finF al, (finF_int al).symm, rfl⟩
  rw [Hen.out.1]
  have hlt : ∀ b, some b ∈ L → b < S1 := fun b e => by have := (BB.out.2.1 b e).2; omega
  have HCA := Lib.hid hca; have G1 := Lib.hid g1; have HP1 := Lib.hid hP1; have HLT := Lib.hid hlt; have HN1 := Lib.hid hn1
  have hsl : s.line.length + n1 ≤ 1000000 := by rw [← hn1]; exact hP
  have d2' := (hca.cells)
  clear hF hR1 hg1 hca g1 hP1 hlt c0 c2 c6 d2' hP hn1
  go_wp2_with fail
  go_loopw [37] (fun i wr => ∃ k : Nat, k ≤ n1 ∧ i = .int .i64 (k : Int) ∧ (readL s.line ((parse al).1.take k)).2 = false ∧ ConnGo w1 base L (fun b => RO b ∨ (w.heap.size ≤ b ∧ b < S1)) gc r { s with ws := leftF al, cl := (parse al).2.2, line := (readL s.line ((parse al).1.take k)).1 } wr) (fun i _ => n1 - (intOf i).toNat)
  case atStart => exact ⟨0, Nat.zero_le _, rfl, by rw [List.take_zero]; rfl, by rw [List.take_zero]; exact ConnGo.refl HCA.out (Ext.refl _)⟩
  case round =>
    obtain ⟨k, hk, rfl, hbad, hgo⟩ := hrel
    by_cases hlt : k < n1
    · obtain ⟨ys, hys⟩ : ∃ ys, (parse al).1[k]? = some ys := ⟨_, List.getElem?_eq_getElem (by rw [HN1.out]; exact hlt)⟩
      obtain ⟨L2, RO2, k1, k2, k3, k4⟩ := hgo
      have hpl := HP1.out.gb k2 HLT.out
      obtain ⟨b, off, Ai, ci, hA, d0, hci, hrd⟩ := hpl.rd.at_ hys
      obtain ⟨hy1, hy2⟩ := HPS.out ys (List.mem_of_getElem? hys)
      have HT := Lib.hid (take_succ_of hys)
      have hll := readL_len s.line ((parse al).1.take k)
      have hlk0 : (readL s.line ((parse al).1.take k)).1.length ≤ 1000000 := by rw [List.length_take] at hll; omega
      have HB := Lib.hid hbad
      subst hA
      have K1 := Lib.hid k1; have K2 := Lib.hid k2; have K3 := Lib.hid k3; have K4 := Lib.hid k4
      obtain ⟨m, Hm⟩ : ∃ m, Hid (ys.length = m) := ⟨_, rfl⟩
      rw [Hm.out] at d0 hci hy1
      have HYS := Lib.hid hys; have HRD := Lib.hid hrd; have HY2 := Lib.hid hy2
      clear hbad k1 k2 k3 k4 hpl hrd hys hy2 hll
      cases hd : decC ys with
      | none =>
        have RQ := Lib.hid (readReq_none wr Ai m ci ys Hm.out hy1 hci HY2.out HRD.out (decC_none hd))
        have HD := Lib.hid hd
        clear hd
        go_wp2_with fail
        refine RQ.out.mono ?_
        rintro e w2 ⟨rfl, x2⟩
        obtain ⟨-, -, -, -, d2, -, -, fz, -, hgl⟩ := (K1.out.ext x2).cells
        have f2 := fz 2
        have X2 := Lib.hid x2
        clear fz x2 d0
        go_wp2_with fail
        go_ret
        refine ⟨rfl, ?_⟩
        have hs0 := (K1.out.ext X2.out).setFin 3
        have xB := (Ext.refl (w2.setCell ⟨gc, 2, none⟩ (.int .i64 3))).alloc (.cells #[.int .u8 0, .int .i64 0, .slice none 0 0, .int .i64 0] 63)
        have hs := And.intro (hs0.1.ext xB) (hs0.2.ext xB)
        refine conn_go_then G1.out (fun b e => .inl e) (fun b e => e.elim .inl (fun e => .inr (.inr e.1))) (conn_go_then K2.out K3.out K4.out (s2 := fedS s al) ⟨L2, RO2, ?_, GB.back X2.out hs.2, fun b e => .inl e, fun b e => .inl e⟩)
        have e1 := readL_snoc ys s.line _ HB.out
        rw [← HT.out, HD.out] at e1
        dsimp only at e1
        have e2 := readL_stop ((parse al).1.drop (k + 1)) s.line ((parse al).1.take (k + 1)) (by rw [e1])
        rw [List.take_append_drop, e1] at e2
        unfold fedS
        rw [e2]
        exact hs.1
      | some c =>
        obtain ⟨hn, he⟩ := decC_some hd
        have RQ := Lib.hid (readReq_ok wr Ai m ci ys c.key c.op c.pol c.num Hm.out hy1 hci HY2.out HRD.out ⟨hn, by rw [List.append_nil]; exact he, fun _ => rfl⟩)
        have HD := Lib.hid hd
        clear hd hn he
        go_wp2_with fail
        refine RQ.out.mono ?_
        rintro e w2 ⟨Ak, kc, rfl, ho2, x2⟩
        obtain ⟨op, pol, key, num⟩ := c
        dsimp only at ho2 RQ ⊢
        obtain ⟨kl, Hkl⟩ : ∃ kl, Hid (key.length = kl) := ⟨_, rfl⟩
        have hko : w2.ownsRow wr.heap.size 5 1 (.slice Ak kl kc) kl (vals .u8 key) := by rw [← Hkl.out]; exact ho2
        rw [Hkl.out]
        obtain ⟨X, hX⟩ : ∃ X, w2.alloc (.cells #[.int .u8 (op : Int), .int .i64 (pol : Int), .slice Ak kl kc, .int .i64 (num : Int)] 63) = X := ⟨_, rfl⟩
        have xX : Ext w2 X := by rw [← hX]; exact (Ext.refl w2).alloc _
        have KX := Lib.hid (show X.heap[w2.heap.size]? = some (.cells #[.int .u8 (op : Int), .int .i64 (pol : Int), .slice Ak kl kc, .int .i64 (num : Int)] 63 (0, 0)) by rw [← hX]; exact blk_new w2 _)
        have xw := x2.trans xX
        obtain ⟨lv, lob, lk, c1, f1, hlob, hoff, hlk, step⟩ := (K1.out.ext xw).lines
        dsimp only at hoff hlk step
        obtain ⟨q, Hq⟩ : ∃ q, Hid ((readL s.line ((parse al).1.take k)).1.length = q) := ⟨_, rfl⟩
        have hlk_ : q ≤ 1000000 := by rw [← Hq.out]; exact hlk0
        rw [Hq.out] at hoff hlk step
        obtain ⟨ao, cap, rfl, -, -, -⟩ := hoff.shape
        have hsz := x2.size
        have nbo : ∀ b, lob = some b → b < wr.heap.size := fun b e => (K1.out.bounds.2.1 b (hlob b e).1).2
        have nbg : ¬ lob = some gc := fun e => (hlob gc e).2 rfl
        have nbx : ¬ lob = some w2.heap.size := fun e => by have := nbo _ e; omega
        have XW := Lib.hid xw; have OFF := Lib.hid hoff; have HLK := Lib.hid hlk; have STEP := Lib.hid step; have HKO := Lib.hid hko; have XX := Lib.hid xX; have HLOB := Lib.hid hlob; have X2 := Lib.hid x2; have NBO := Lib.hid nbo; have C1 := Lib.hid c1
        clear ho2 hko x2 xX xw hoff hlk step d0 hlob nbo
        go_upto_region 10 with fail
        (try rw [hX])
        clear hX
        have u0 : X.cell? ⟨w2.heap.size, 0, none⟩ = some (.int .u8 (op : Int)) := blk_cell KX.out 0
        have u1 : X.cell? ⟨w2.heap.size, 1, none⟩ = some (.int .i64 (pol : Int)) := blk_cell KX.out 1
        have u2 : X.cell? ⟨w2.heap.size, 2, none⟩ = some (.slice Ak kl kc) := blk_cell KX.out 2
        have u3 : X.cell? ⟨w2.heap.size, 3, none⟩ = some (.int .i64 (num : Int)) := blk_cell KX.out 3
        go_upto_region 13 with fail
        refine wp_region_k (fun u => u.cell? ⟨gc, 1, none⟩ = some (.slice ao q cap) ∧ u.cell? ⟨w2.heap.size, 0, none⟩ = some (.int .u8 (op : Int)) ∧ u.cell? ⟨w2.heap.size, 1, none⟩ = some (.int .i64 (pol : Int)) ∧ u.cell? ⟨w2.heap.size, 2, none⟩ = some (.slice Ak kl kc) ∧ u.cell? ⟨w2.heap.size, 3, none⟩ = some (.int .i64 (num : Int))) [10] (by kernel_rfl) ?_
        have hHeld := And.intro (drew_cell c1) (And.intro (drew_cell u0) (And.intro (drew_cell u1) (And.intro (drew_cell u2) (drew_cell u3))))
        have XD : Ext X X.drew := (Ext.refl X).drew
        clear u0 u1 u2 u3 c1
        generalize X.drew = U at XD hHeld ⊢
        refine wpAnyK_free (i := 0) (oi := _) (v := ?_) rfl (by kernel_rfl) (by kernel_rfl) (by kernel_rfl) (by kernel_rfl) (fun _ _ _ h => h) (Or.inl ⟨by rfl, ?_⟩) (HeldT.of hHeld) ?_
        rotate_left
        · intro w _; go_simp
          (try with_reducible rfl)
        (try simp only [Act.put])
        refine wpAnyK_free (i := 1) (oi := _) (v := ?_) rfl (by kernel_rfl) (by kernel_rfl) (by kernel_rfl) (by kernel_rfl) (fun _ _ _ h => h) (Or.inl ⟨by rfl, ?_⟩) (HeldT.of hHeld) ?_
        rotate_left
        · intro w _; go_simp
          (try with_reducible rfl)
        (try simp only [Act.put])
        refine wpAnyK_free (i := 2) (oi := _) (v := ?_) rfl (by kernel_rfl) (by kernel_rfl) (by kernel_rfl) (by kernel_rfl) (fun _ _ _ h => h) (Or.inl ⟨by rfl, ?_⟩) (HeldT.of hHeld) ?_
        rotate_left
        · intro w _; go_simp
          (try with_reducible rfl)
        (try simp only [Act.put])
        refine wpAnyK_free (i := 3) (oi := _) (v := ?_) rfl (by kernel_rfl) (by kernel_rfl) (by kernel_rfl) (by kernel_rfl) (fun _ _ _ h => h) (Or.inl ⟨by rfl, ?_⟩) (HeldT.of hHeld) ?_
        rotate_left
        · intro w _; go_simp
          (try with_reducible rfl)
        (try simp only [Act.put])
        refine wpAnyK_take 20 (i := 4) (oi := _) (v := ?_) rfl (by kernel_rfl) (by kernel_rfl) (by kernel_rfl) (by kernel_rfl) (by kernel_rfl) (fun _ _ _ h => h) (Or.inl ⟨by rfl, ?_⟩) (by assumption) ?_
        rotate_left
        · intro w hSw; (try dsimp only at hSw); go_simp
          (try with_reducible rfl)
        (try simp only [Act.put])
        refine wpAnyK_take 20 (i := 5) (oi := _) (v := ?_) rfl (by kernel_rfl) (by kernel_rfl) (by kernel_rfl) (by kernel_rfl) (by kernel_rfl) (fun _ _ _ h => h) (Or.inl ⟨by rfl, ?_⟩) (by assumption) ?_
        rotate_left
        · intro w hSw; (try dsimp only at hSw); go_simp
          (try with_reducible rfl)
        (try simp only [Act.put])
        refine wpAnyK_ready (rs := [6]) (by kernel_rfl) (by simp) (AllReadyK.cons (o := _) rfl (fun K' hK => ?_) AllReadyK.nil)
        have q1 := hHeld.1
        have u0 := hHeld.2.1
        have u1 := hHeld.2.2.1
        have u2 := hHeld.2.2.2.1
        have u3 := hHeld.2.2.2.2
        go_simp
        have yU : Ext U (U.alloc (.cells #[.int .u8 (op : Int), .int .i64 (pol : Int), .slice Ak kl kc, .int .i64 (num : Int)] 63)) := (Ext.refl U).alloc _
        have yX := XD.trans yU
        refine hK.out _ _ ⟨ext_cell yU q1, ext_cell yU u0, ext_cell yU u1, ext_cell yU u2, ext_cell yU u3⟩ ?_
        clear hK K'
        (try simp only [Act.put])
        have d1 := ext_cell yU q1; have e0 := ext_cell yU u0; have e1 := ext_cell yU u1; have e2 := ext_cell yU u2; have e3 := ext_cell yU u3
        have f1Y := frz_ext2 yX C1.out f1
        have nx := blk_new U (.cells #[.int .u8 (op : Int), .int .i64 (pol : Int), .slice Ak kl kc, .int .i64 (num : Int)] 63)
        have NX := Lib.hid (show ∀ j u, [Value.int .u8 (op : Int), .int .i64 (pol : Int), .slice Ak kl kc, .int .i64 (num : Int)][j]? = some u → (U.alloc (.cells #[.int .u8 (op : Int), .int .i64 (pol : Int), .slice Ak kl kc, .int .i64 (num : Int)] 63)).cell? ((⟨U.heap.size, 0, none⟩ : Addr).add j) = some u from fun j u hu => by
          rw [Addr.add_lit, Nat.zero_add]
          exact (blk_cell nx j).trans (by rw [← hu]; simp))
        clear nx q1 u0 u1 u2 u3
        refine wpAnyK_ready (rs := [7]) (by kernel_rfl) (by simp) (AllReadyK.cons (o := _) rfl (fun K' hK => ?_) AllReadyK.nil)
        refine step_app_call (U.alloc (.cells #[.int .u8 (op : Int), .int .i64 (pol : Int), .slice Ak kl kc, .int .i64 (num : Int)] 63)) rfl (.tmp 55) (.tmp 57) rfl (by rfl) (OFF.out.ext yX) hlk_ (by rfl) rfl NX.out (fun u hu => by simp at hu; rcases hu with rfl | rfl | rfl | rfl <;> rfl) ?_
        intro v' w6 ob' o6 g6 b6
        obtain ⟨va, vc, rfl, -, -, -⟩ := o6.shape
        have q1 := g6.cell d1 nbg; have u0 := g6.cell e0 nbx; have u1 := g6.cell e1 nbx; have u2 := g6.cell e2 nbx; have u3 := g6.cell e3 nbx
        have F1 := frz_gb g6 d1 f1Y nbg
        have O6 := Lib.hid o6; have G6 := Lib.hid g6; have B6 := Lib.hid b6
        clear o6 g6 b6
        refine hK.out _ _ ⟨q1, u0, u1, u2, u3⟩ ?_
        clear hK K'
        (try simp only [Act.put])
        refine wpAnyK_ready (rs := [8]) (by kernel_rfl) (by simp) (AllReadyK.cons (o := _) rfl (fun K' hK => ?_) AllReadyK.nil)
        go_simp
        refine hK.out _ _ ⟨q1, u0, u1, u2, u3⟩ ?_
        clear hK K'
        (try simp only [Act.put])
        refine wpAnyK_ready (rs := [9]) (by kernel_rfl) (by simp) (AllReadyK.cons (o := _) rfl (fun K' hK => ?_) AllReadyK.nil)
        go_simp
        refine hK.out _ _ ⟨q1, u0, u1, u2, u3⟩ ?_
        clear hK K'
        (try simp only [Act.put])
        refine wpAnyK_ready (rs := [10]) (by kernel_rfl) (by simp) (AllReadyK.last (o := _) (by kernel_rfl) rfl (fun K' hK => ?_) AllReadyK.nil)
        go_simp
        refine hK.out _ _ ?_
        clear hK K'
        (try simp only [Act.put])
        refine wpAnyK_done (by kernel_rfl) ?_ _
        have e1r := readL_snoc ys s.line _ HB.out
        rw [← HT.out, HD.out] at e1r
        dsimp only at e1r
        have RD := Lib.hid e1r
        clear e1r
        go_wp2_with fail
        go_roundw
        case rel =>
          have gX6 : GB X w6 (fun b => lob = some b) := ((GB.refl X _).ext yX).trans G6.out (fun b e => .inl e)
          have hkey : Rd w6 Ak (vals .u8 key) := gX6.rd ((Rd.of_own HKO.out).ext XX.out) (fun a e e2 => by have := (HKO.out.lt a.block (by rw [e]; rfl)).1; have := NBO.out _ e2; omega)
          obtain ⟨m1, m2, m3⟩ := STEP.out w6 (.slice va (q + 1) vc) ob' Ak kc ⟨op, pol, key, num⟩ (by show OffS _ _ _ _ _ (_ ++ [_, _, Value.slice _ key.length _, _]); rw [Hkl.out]; exact O6.out) gX6 (fun b e => by
            rcases B6.out with h9 | h9
            · exact .inl (h9 ▸ e)
            · rw [h9] at e
              injection e with e
              exact .inr (by rw [← e]; exact yX.size)) (by dsimp only; rw [Hkl.out]; exact own_cap HKO.out) hkey (fun a e => by
            have hl9 := HKO.out.lt a.block (by rw [e]; rfl)
            have hB := K1.out.bounds
            refine ⟨fun e2 => by have := (hB.2.1 _ e2).2; omega, ?_, Nat.lt_of_lt_of_le hl9.2 XX.out.size⟩
            have := hB.2.1 gc hB.1
            omega)
          refine ⟨k + 1, hlt, by go_num, by rw [RD.out], conn_go_then K2.out K3.out K4.out ⟨_, _, ?_, GB.back XW.out m2, fun b e => (m3 b e).imp id (fun e => Nat.le_trans XW.out.size e), fun b e => (show RO2 b ∨ ∃ a, Ak = some a ∧ a.block = b from e).imp id ?_⟩⟩
          · rw [RD.out]
            exact m1
          · rintro ⟨a, ea, eb⟩
            have := (HKO.out.lt a.block (by rw [ea]; rfl)).1
            exact .inr (by omega)
        case measure => simp [intOf]; omega
    · obtain rfl : k = n1 := by omega
      have HB := Lib.hid hbad; have HGO := Lib.hid hgo
      rw [List.take_of_length_le (by rw [HN1.out]; exact Nat.le_refl _)] at HB HGO
      clear hbad hgo
      obtain ⟨L2, RO2, k1, k2, k3, k4⟩ := HGO.out
      obtain ⟨-, -, -, -, d2, -, -, fz, -⟩ := k1.cells
      have f2 := fz 2
      clear k1 k2 k3 k4 fz
      go_wp2_with fail
      go_ret
      refine ⟨rfl, ?_⟩
      refine conn_go_then G1.out (fun b e => .inl e) (fun b e => e.elim .inl (fun e => .inr (.inr e.1))) (ConnGo.trans HGO.out fun L1 RO1 k1 => ?_)
      have SF := k1.setFin en
      refine ⟨L1, RO1, ?_, SF.2, fun b e => .inl e, fun b e => .inl e⟩
      unfold fedS
      rw [if_neg (by rw [HB.out]; exact Bool.false_ne_true), Hen.out.2]
      exact SF.1

set_option maxHeartbeats 2000000 in
set_option maxRecDepth 100000 in
theorem toksSame_true (w : World) (A B : Option Addr) (n c d : Nat) (l : List CTok) (ks ks' : List KRef) (hl : l.length = n) (hn : n ≤ 9223372036854775807) (hb : ∀ t ∈ l, t.key.length ≤ 9223372036854775807 ∧ ∀ x ∈ t.key, x < 256) (hA : TokRd w A l ks) (hB : TokRd w B l ks') :
    Calls Try.prog 56 #[.slice A n c, .slice B n d] w (RetQ (.bool true) w) := by
  have Hl := Lib.hid hl; have HA := Lib.hid hA; have HB := Lib.hid hB; have Hb := Lib.hid hb; clear hl hA hB hb
  go_enter Try.func56, Try.ntmps56
  go_wp2_with fail
  go_loopw [13] (fun i wr => ∃ k q : Nat, k ≤ n ∧ i = .int .i64 k ∧ wr = w.drewN q) (fun i _ => n - (intOf i).toNat)
  case atStart => exact ⟨0, 0, Nat.zero_le _, rfl, rfl⟩
  case round =>
    obtain ⟨k, q, hk, rfl, rfl⟩ := hrel
    by_cases hlt : k < n
    · obtain ⟨t, ht⟩ : ∃ t, l[k]? = some t := ⟨_, List.getElem?_eq_getElem (by rw [Hl.out]; exact hlt)⟩
      have hbp := Hb.out t (List.mem_of_getElem? ht)
      obtain ⟨b, off, K, kc, hA, -, a0, a1, a2, -, hr⟩ := HA.out.at_ ht
      obtain ⟨b', off', K', kc', hB, -, b0, b1, b2, -, hr'⟩ := HB.out.at_ ht
      obtain ⟨p, key, s⟩ := t
      dsimp only at hbp a0 a1 a2 b0 b1 b2 hr hr'
      have C := Lib.hid (fun q => same_any K K' key.length kc key.length kc' key key (w.drewN q) rfl rfl hbp.1 hbp.2 hbp.2 hr hr')
      rw [show same key key = true from decide_eq_true rfl] at C
      clear hr hr' ht hbp
      subst hA hB
      go_wp2_with fail
      go_quiet ((go_at_call 20; first | exact quiet_add_q (C.out _) | exact quiet_q (C.out _)))
      go_wp2_with fail
      go_roundw
      case rel => exact ⟨k + 1, _, by omega, by go_num, by first | rfl | (simp only [drewN_add]; rfl)⟩
      case measure => simp [intOf]; omega
    · go_wp2_with fail
      go_ret
      exact ⟨rfl, q, rfl⟩
theorem reqB_pos' (op p N : Nat) (xs : List Nat) : 1 ≤ (reqB op p xs N).length := by
  unfold reqB
  split
  · simp
  · split
    · simp
    · simp
theorem reqB_len' {op p N : Nat} {xs : List Nat} (h : xs.length ≤ 255) : (reqB op p xs N).length ≤ 1000 := by
  unfold reqB
  split
  · rw [List.length_cons, tokB_len]; omega
  · split
    · simp
    · simp only [List.length_cons, List.length_append]
      split
      · rw [wordB_len]; omega
      · simp; omega
/-- a right call as it is read -/
theorem norm_of {op P M : Nat} {xs : List Nat} (h : RightC op P xs M) (hb : ∀ x ∈ xs, x < 256) :
    ∃ c : CCall, NormC c.op c.pol c.key c.num ∧ reqB c.op c.pol c.key c.num = reqB op P xs M ∧ c.op = op ∧ (op < 5 → c.pol = P ∧ c.key = xs) ∧ (op = 1 ∨ op = 3 → c.num = M) := by
  obtain ⟨h1, h2, h3, h4, h5⟩ := h
  by_cases h56 : 5 ≤ op
  · refine ⟨⟨op, 0, [], 0⟩, ⟨⟨h1, h2, fun h => by dsimp only at h; omega, fun h => by dsimp only at h; omega, fun h => by dsimp only at h; omega⟩, (by simp), fun _ => ⟨rfl, rfl, rfl⟩, fun h => rfl⟩, ?_, rfl, fun h => by omega, fun h => by omega⟩
    dsimp only
    rw [reqB_56 (by omega), reqB_56 (by omega)]
  · by_cases h24 : op = 2 ∨ op = 4
    · refine ⟨⟨op, P, xs, 0⟩, ⟨⟨h1, h2, h3, fun h => by dsimp only at h; omega, fun h => by dsimp only at h; omega⟩, hb, fun h => by dsimp only at h; omega, fun _ => rfl⟩, ?_, rfl, fun _ => ⟨rfl, rfl⟩, fun h => by omega⟩
      rcases h24 with rfl | rfl
      · rw [reqB_2, reqB_2]
      · rw [reqB_4, reqB_4]
    · exact ⟨⟨op, P, xs, M⟩, ⟨⟨h1, h2, h3, h4, h5⟩, hb, fun h => by dsimp only at h; omega, fun h => absurd h h24⟩, rfl, rfl, fun _ => ⟨rfl, rfl⟩, fun _ => rfl⟩
/-- a request's frame, or nothing -/
def RetFr (F : Option (List Nat)) (w : World) (e : Ending) (w' : World) : Prop := match F with
  | none => e = .returned (.slice none 0 0) ∧ Ext w w'
  | some L => ∃ g c, e = .returned (.slice (some ⟨g, 0, none⟩) L.length c) ∧ w'.ownsRow w.heap.size 5 1 (.slice (some ⟨g, 0, none⟩) L.length c) L.length (vals .u8 L) ∧ Ext w w'
/-- what a call's frame is: c is the call as it is read -/
def FrOf (op : Nat) (p : Int) (xs : List Nat) (N : Int) (F : Option (List Nat)) : Prop :=
  (F = none ∧ ∀ P M : Nat, (op < 5 → p = (P : Int)) → (op = 1 ∨ op = 3 → N = (M : Int)) → ¬ RightC op P xs M) ∨
    ∃ P M : Nat, (op < 5 → p = (P : Int)) ∧ (op = 1 ∨ op = 3 → N = (M : Int)) ∧ RightC op P xs M ∧ F = some (len4 (reqB op P xs M).length ++ reqB op P xs M)
set_option maxHeartbeats 2000000 in
set_option maxRecDepth 100000 in
theorem crequest_any (op : Nat) (hop : op < 256) (p N : Int) (n : Nat) (xs : List Nat) (hl : xs.length = n) (hb : ∀ x ∈ xs, x < 256) :
    ∃ F, FrOf op p xs N F ∧ (∀ L, F = some L → L.length ≤ 1010 ∧ ∀ x ∈ L, x < 256) ∧ ∀ A c w, Rd w A (vals .u8 xs) → Calls Try.prog 47 #[callV (op : Int) p A n c N] w (RetFr F w) := by
  obtain ⟨q, L, hq, hc, -⟩ := req_cases op hop p N n xs hl hb
  rcases hq with ⟨hq0, rfl, hno⟩ | ⟨rfl, P, M, h1, h2, h3, rfl⟩
  · have hq' : (q != 0) = true := by simp [bne, hq0]
    refine ⟨none, .inl ⟨rfl, fun P M e1 e2 e3 => hno ⟨P, M, e1, e2, e3⟩⟩, (fun L e => by cases e), fun A c w hr => ?_⟩
    have C := Lib.hid (hc A c _ (hr.ext ((Ext.refl w).alloc (.cells #[.int .u8 (op : Int), .int .i64 p, .slice A n c, .int .i64 N] 63))))
    clear hc hno hb hl hr hq0
    go_enter Try.func47, Try.ntmps47
    go_wp2_with fail
    refine C.out.mono ?_
    rintro e w1 ⟨A1, c1, rfl, o1, x1⟩
    clear o1
    go_wp2_with fail
    go_ret
    exact ⟨rfl, ((Ext.refl w).alloc _).trans x1⟩
  · have hx : xs.length ≤ 255 ∨ 5 ≤ op := by have := h3.2.2.1; omega
    have hlen : (reqB op P xs M).length ≤ 1000 := by
      rcases hx with hx | hx
      · exact reqB_len' hx
      · rw [reqB_56 (by have := h3.2.1; omega)]; simp
    have hpos := reqB_pos' op P M xs
    have hlt := reqB_lt h3 hb
    obtain ⟨R, HR⟩ : ∃ R, Hid (reqB op P xs M = R) := ⟨_, rfl⟩
    rw [HR.out] at hc hlen hpos hlt
    obtain ⟨m, Hm⟩ : ∃ m, Hid (R.length = m) := ⟨_, rfl⟩
    rw [Hm.out] at hlen hpos
    refine ⟨some (len4 m ++ R), .inr ⟨P, M, h1, h2, h3, by rw [HR.out, Hm.out]⟩, fun L e => ?_, fun A c w hr => ?_⟩
    · injection e with e
      subst e
      refine ⟨by rw [List.length_append, Hm.out]; simp [len4]; omega, fun x hx => ?_⟩
      rcases List.mem_append.1 hx with hx | hx
      · simp [len4] at hx
        omega
      · exact hlt x hx
    · have C := Lib.hid (hc A c _ (hr.ext ((Ext.refl w).alloc (.cells #[.int .u8 (op : Int), .int .i64 p, .slice A n c, .int .i64 N] 63))))
      clear hc h1 h2 h3 hr hb hl hlt hx
      go_enter Try.func47, Try.ntmps47
      go_wp2_with fail
      refine C.out.mono ?_
      rintro e w1 ⟨A1, c1, rfl, o1, x1⟩
      rw [Hm.out] at o1 ⊢
      have O1 := Lib.hid o1
      have X1 := Lib.hid (((Ext.refl w).alloc (.cells #[.int .u8 (op : Int), .int .i64 p, .slice A n c, .int .i64 N] 63)).trans x1)
      clear o1 x1
      go_wp2_with fail
      refine (frEncode_ok w1 A1 m c1 R (by omega) hpos Hm.out (Rd.of_own O1.out)).mono ?_
      rintro e w2 ⟨A2, c2, rfl, o2, x2⟩
      have O2 := Lib.hid o2; have X2 := Lib.hid (X1.out.trans x2)
      obtain ⟨g, rfl, -, -⟩ := own_some_s o2 (by have := own_cap o2; rw [List.length_append] at this; simp [len4] at this; omega)
      obtain ⟨fn, Hfn⟩ : ∃ fn, Hid ((len4 m ++ R).length = fn) := ⟨_, rfl⟩
      rw [Hfn.out]
      clear o2 x2
      go_wp2_with fail
      go_ret
      exact ⟨g, c2, by rw [Hfn.out]; rfl, own_base O2.out X1.out.size, X2.out⟩

theorem cinv_init : CInv cInit := ⟨(fun x h => by cases h), (fun c h => by cases h), (fun c h => by cases h), (fun x h => by cases h), (fun t h => by cases h)⟩
theorem readL_norm : ∀ (l : List CCall) (xs : List (List Nat)), (∀ c ∈ l, NormC c.op c.pol c.key c.num) → ∀ c ∈ (readL l xs).1, NormC c.op c.pol c.key c.num
  | l, [], h => h
  | l, x :: xs, h => by
    unfold readL
    cases hx : decC x with
    | none => exact h
    | some c =>
      refine readL_norm (l ++ [c]) xs fun d hd => ?_
      rcases List.mem_append.1 hd with hd | hd
      · exact h d hd
      · rw [List.mem_singleton.1 hd]; exact (decC_some hx).1
theorem cinv_fed {s : CSt} (h : CInv s) {xs : List Nat} (hb : ∀ x ∈ xs, x < 256) : CInv (fedS s (s.ws ++ xs)) := by
  obtain ⟨h1, h2, h3, h4, h5⟩ := h
  refine ⟨fun x hx => ?_, readL_norm s.line _ h2, h3, h4, h5⟩
  exact (List.mem_append.1 ((leftF_small _).2 x hx)).elim (h1 x) (hb x)
theorem cinv_next {s : CSt} (h : CInv s) {c : CCall} {rest : List CCall} (hl : s.line = c :: rest) : CInv { s with line := rest, out := some c } := by
  obtain ⟨h1, h2, h3, h4, h5⟩ := h
  refine ⟨h1, fun d hd => h2 d (by rw [hl]; exact List.mem_cons_of_mem _ hd), fun d hd => ?_, h4, h5⟩
  injection hd with hd
  rw [← hd]
  exact h2 c (by rw [hl]; exact List.mem_cons_self)
theorem words_lt (ns : List Nat) : ∀ x ∈ words ns, x < 256 := fun x hx => by
  obtain ⟨n, _, h⟩ := List.mem_flatMap.1 hx
  exact wordB_lt n 8 x h
theorem rep_lt {e : Int} {g : Bool} {N : List Int} {q : Int} {B : List Nat} (h : RepIs e g N q B) : ∀ x ∈ B, x < 256 := fun x hx => by
  rcases h with ⟨_, h, _⟩ | ⟨_, h1, h2, ns, _, h⟩
  · rw [h] at hx; cases hx
  · rw [h] at hx
    rcases List.mem_cons.1 hx with hx | hx
    · omega
    · rcases List.mem_cons.1 hx with hx | hx
      · rw [hx]; cases g <;> simp [oneIf]
      · exact words_lt ns x hx
theorem rep_len {e : Int} {g : Bool} {N : List Int} {B : List Nat} (h : RepIs e g N 0 B) : B.length = 34 := by
  rcases h with ⟨h, _⟩ | ⟨_, h1, h2, ns, h3, h⟩
  · cases h
  · rw [h, repB_len, h3.1]
/-- right replies are taken, others are not -/
theorem rep_ok {e : Int} {g : Bool} {N : List Int} {q : Int} {B : List Nat} (h : RepIs e g N q B) (he : 0 ≤ e ∧ e ≤ 16) (hN : ∀ x ∈ N, okN x) : q = 0 := by
  rcases h with ⟨_, _, h⟩ | ⟨h, _⟩
  · exact absurd ⟨he.1, he.2, hN⟩ h
  · exact h
/-- a reply has one form -/
theorem rep_one {e : Int} {g : Bool} {N : List Int} (hN : N.length = 4) {q q' : Int} {B B' : List Nat} (h : RepIs e g N q B) (h' : RepIs e g N q' B') : q = q' ∧ B = B' := by
  have key : ∀ {ns : List Nat}, HeadOk N 4 ns → ∀ x ∈ N, okN x := fun {ns} h x hx => by
    obtain ⟨h1, h2, h3⟩ := h
    rw [List.take_of_length_le (by rw [hN]; exact Nat.le_refl _)] at h2
    rw [← h2] at hx
    obtain ⟨y, hy, rfl⟩ := List.mem_map.1 hx
    have := h3 y hy
    unfold okN
    omega
  rcases h with ⟨h1, h2, h3⟩ | ⟨h1, h2, h3, ns, h4, h5⟩
  · rcases h' with ⟨k1, k2, k3⟩ | ⟨k1, k2, k3, ns', k4, k5⟩
    · exact ⟨by rw [h1, k1], by rw [h2, k2]⟩
    · exact absurd ⟨k2, k3, key k4⟩ h3
  · rcases h' with ⟨k1, k2, k3⟩ | ⟨k1, k2, k3, ns', k4, k5⟩
    · exact absurd ⟨h2, h3, key h4⟩ k3
    · refine ⟨by rw [h1, k1], ?_⟩
      have e1 : ns = ns' := by
        have e2 := h4.2.1.trans k4.2.1.symm
        exact (List.map_inj_right (fun x y e => Int.ofNat.inj e)).1 e2
      rw [h5, k5, e1]
theorem cinv_wrote {s : CSt} (h : CInv s) (q : Int) {B : List Nat} (hB : ∀ x ∈ B, x < 256) : CInv (wrote s q B) := by
  obtain ⟨h1, h2, h3, h4, h5⟩ := h
  unfold wrote
  split
  · refine ⟨h1, h2, h3, fun x hx => ?_, h5⟩
    rcases List.mem_append.1 hx with hx | hx
    · exact h4 x hx
    · exact (List.mem_append.1 hx).elim (len4_lt _ x) (hB x)
  · exact ⟨h1, h2, h3, h4, h5⟩
theorem cinv_replied {s : CSt} (h : CInv s) {c : CCall} (ho : s.out = some c) (e sn : Int) {B : List Nat} (hB : ∀ x ∈ B, x < 256) : CInv (repliedS s c e sn B) := by
  have hc := (h.2.2.1 c ho).2.1
  have hl := h.2.2.2.2
  obtain ⟨h1, h2, h3, h4, h5⟩ := cinv_wrote h 0 hB
  rw [wrote_led] at h5
  unfold repliedS
  split
  · split
    · refine ⟨h1, h2, (fun d hd => by cases hd), h4, fun t ht => ?_⟩
      rcases List.mem_append.1 ht with ht | ht
      · exact hl t ht
      · rw [List.mem_singleton.1 ht]; exact hc
    · split
      · refine ⟨h1, h2, (fun d hd => by cases hd), h4, fun t ht => ?_⟩
        dsimp only at ht
        split at ht
        · exact hl t ht
        · exact hl t (List.mem_of_mem_eraseIdx ht)
      · exact ⟨h1, h2, (fun d hd => by cases hd), h4, by dsimp only; rw [wrote_led]; exact hl⟩
  · exact ⟨h1, h2, (fun d hd => by cases hd), h4, by dsimp only; rw [wrote_led]; exact hl⟩
theorem cinv_take {s : CSt} (h : CInv s) : CInv { s with wr := [] } := ⟨h.1, h.2.1, h.2.2.1, (fun x hx => by cases hx), h.2.2.2.2⟩
theorem cinv_hang {s : CSt} (h : CInv s) : CInv (hangS s) := ⟨h.1, (fun x hx => by cases hx), h.2.2.1, h.2.2.2.1, h.2.2.2.2⟩
/-- one frame comes, whole -/
theorem fed_one {s : CSt} (hw : s.ws = []) (hcl : s.cl = false) (hf : s.fin = 0) {R : List Nat} {c : CCall} (h1 : 1 ≤ R.length) (h2 : R.length ≤ 4096) (hd : decC R = some c) : fedS s (s.ws ++ (len4 R.length ++ R)) = { s with line := s.line ++ [c] } := by
  have hp := parse_enc R [] h1 h2
  rw [List.append_nil, parse_nil] at hp
  rw [hw, List.nil_append]
  obtain ⟨ws, cl, line, fin, out, wr, led, closed, hung⟩ := s
  dsimp only at hw hcl hf ⊢
  subst hw hcl hf
  unfold fedS leftF finF
  rw [hp]
  dsimp only
  simp [readL, hd]

def cA : CCall := ⟨2, 1, [107], 0⟩
theorem normA : NormC cA.op cA.pol cA.key cA.num := ⟨⟨by decide, by decide, fun _ => ⟨by decide, by decide⟩, (fun h => by cases h), (fun h => by cases h)⟩, by decide, (fun h => absurd h (by decide)), fun _ => rfl⟩
/-- request of a right call of the second kind -/
theorem crequest_acq (P : Nat) (hP : P < 32) (xs : List Nat) (n : Nat) (hl : xs.length = n) (hn : n ≤ 255) (hb : ∀ x ∈ xs, x < 256) (A : Option Addr) (c : Nat) (w : World) (hr : Rd w A (vals .u8 xs)) :
    Calls Try.prog 47 #[callV 2 (P : Int) A n c 0] w (RetFr (some (len4 (n + 3) ++ (2 :: P :: n :: xs))) w) := by
  obtain ⟨F, hF, -, hC⟩ := crequest_any 2 (by omega) (P : Int) 0 n xs hl hb
  have hFe : F = some (len4 (n + 3) ++ (2 :: P :: n :: xs)) := by
    rcases hF with ⟨_, h⟩ | ⟨P', M, h1, h2, h3, h4⟩
    · exact absurd ⟨by omega, by omega, fun _ => ⟨hP, by omega⟩, fun h => by omega, fun h => by omega⟩ (h P 0 (fun _ => rfl) (fun h => by omega))
    · obtain rfl : P = P' := by have := h1 (by omega); omega
      rw [h4, reqB_2, hl]
      simp only [List.length_cons, hl]
  rw [hFe] at hC
  exact hC A c w hr
theorem tokRd_one {w : World} {A K : Option Addr} {c : Nat} {key : List Nat} {p s : Int} (h : Rd w A [.int .i64 p, .slice K key.length c, .int .i64 s]) (hk : key.length ≤ c) (hr : Rd w K (vals .u8 key)) : TokRd w A [⟨p, key, s⟩] [(K, c)] :=
  ⟨rfl, h, fun q hq => by
    rw [List.mem_singleton.1 (show q ∈ [((K, c), (⟨p, key, s⟩ : CTok))] from hq)]
    exact ⟨hk, hr⟩⟩
theorem wrote_wr (s : CSt) (B : List Nat) (h : s.hung = false) : (wrote s 0 B).wr = s.wr ++ (len4 B.length ++ B) := by unfold wrote; rw [if_pos ⟨rfl, h⟩]
theorem replied_acq {s : CSt} {c : CCall} {sn : Int} {B : List Nat} (hh : s.hung = false) (hc : c.op = 2) : repliedS s c 0 sn B = { s with wr := s.wr ++ (len4 B.length ++ B), out := none, led := s.led ++ [⟨(c.pol : Int), c.key, sn⟩] } := by
  unfold repliedS wrote
  rw [if_pos rfl, if_pos hc, if_pos ⟨rfl, hh⟩]
set_option maxHeartbeats 8000000 in
set_option maxRecDepth 100000 in
theorem cawake (w : World) : Calls Try.prog 46 #[] w (RetTrue w) := by
  go_enter Try.func46, Try.ntmps46
  go_wp2_with fail
  refine (cnew_any w).mono ?_
  rintro e w1 ⟨gc, r, L1, RO1, rfl, h1, x1⟩
  have H1 := Lib.hid h1; have X1 := Lib.hid x1
  clear h1 x1
  have kc := Lib.run_convert_bytes_const (P := Try.prog) w1 28 5 #[.int .u8 107] 1 1 Try.underlying28 Try.underlying5
  go_wp2_with fail
  refine (crequest_acq 1 (by omega) [107] 1 rfl (by omega) (by decide) _ 1 _ (rd_mark w1 [.int .u8 107] _ _)).mono ?_
  rintro e w2 ⟨g2, c2, rfl, o2, x2⟩
  have O2 := Lib.hid o2
  have X2 := Lib.hid (((Ext.refl w1).alloc _).trans x2)
  clear o2 x2 kc
  have hd : decC [2, 1, 1, 107] = some cA := decC_of normA
  have hfs : fedS cInit (cInit.ws ++ (len4 [2, 1, 1, 107].length ++ [2, 1, 1, 107])) = { cInit with line := [cA] } := fed_one (s := cInit) rfl rfl rfl (by decide) (by decide) hd
  have HFS := Lib.hid hfs
  have FD := Lib.hid (cfeed_open w2 w.heap.size gc r L1 RO1 cInit (H1.out.ext X2.out) cinv_init rfl rfl rfl (some ⟨g2, 0, none⟩) 8 c2 (len4 (1 + 3) ++ [2, 1, 1, 107]) rfl (by decide) (Rd.of_own O2.out) (by decide) (by decide))
  clear hd hfs
  go_wp2_with fail
  refine FD.out.mono ?_
  rintro e w3 ⟨rfl, hg3⟩
  obtain ⟨L3, RO3, h3, g3, k3, -⟩ := ConnGo.back X2.out hg3
  have h3' : ConnAt w3 w.heap.size L3 RO3 gc r { cInit with line := [cA] } := by rw [← HFS.out]; exact h3
  have e3 : Ext w w3 := GB.to_ext g3 X1.out (fun i hi => (H1.out.bounds.2.1 i hi).1)
  have E3 := Lib.hid e3
  have HB3 := Lib.hid (fun i hi => (h3'.bounds.2.1 i hi).1)
  have NX := Lib.hid (cnext_call w3 w.heap.size gc r L3 RO3 _ h3' rfl rfl cA [] rfl (by decide))
  clear hg3 h3 g3 k3 h3' e3
  go_wp2_with fail
  refine NX.out.mono ?_
  rintro e w4 ⟨v, rfl, ⟨Ak, kk, hv⟩, hg4⟩
  replace hv : v = .agg #[.int .u8 2, .int .i64 1, .slice Ak 1 kk, .int .i64 0] := hv
  subst hv
  obtain ⟨L4, RO4, h4, g4, k4, -⟩ := hg4
  have E4 := Lib.hid (GB.to_ext g4 E3.out HB3.out)
  have H4 := Lib.hid h4; clear h4 g4 k4
  go_upto_region 5 with fail
  obtain ⟨W5, hW5⟩ : ∃ W5, w4.alloc (.cells #[.int .u8 2, .int .i64 1, .slice Ak 1 kk, .int .i64 0] 63) = W5 := ⟨_, rfl⟩
  have x5 : Ext w4 W5 := by rw [← hW5]; exact (Ext.refl w4).alloc _
  have B4 := Lib.hid (show W5.heap[w4.heap.size]? = some (.cells #[.int .u8 2, .int .i64 1, .slice Ak 1 kk, .int .i64 0] 63 (0, 0)) by rw [← hW5]; exact blk_new w4 _)
  have X5 := Lib.hid x5
  have NB := Lib.hid (cnext_busy W5 w.heap.size gc r L4 RO4 _ (H4.out.ext x5) cA rfl)
  clear x5
  (try rw [hW5])
  clear hW5
  go_wp2_with fail
  refine NB.out.mono ?_
  rintro e w6 ⟨rfl, x6⟩
  have X6 := Lib.hid x6
  clear x6
  go_upto_region 6 with fail
  obtain ⟨W7, hW7⟩ : ∃ W7, w6.alloc (.cells #[.int .u8 0, .int .i64 0, .slice none 0 0, .int .i64 0] 63) = W7 := ⟨_, rfl⟩
  have X7 := Lib.hid (show Ext W5 W7 from X6.out.trans (by rw [← hW7]; exact (Ext.refl w6).alloc _))
  have RP := Lib.hid (creply_call W7 w.heap.size gc r L4 RO4 _ (H4.out.ext (X5.out.trans X7.out)) (cinv_next (s := { cInit with line := [cA] }) ⟨(fun x h => by cases h), (fun c h => by rw [List.mem_singleton.1 h]; exact normA), (fun c h => by cases h), (fun x h => by cases h), (fun t h => by cases h)⟩ rfl) (by decide) (by decide) cA rfl 0 (by omega) true 1 0 5 0)
  (try rw [hW7])
  clear hW7
  go_wp2_with fail
  refine RP.out.mono ?_
  rintro e w8 ⟨q, B, hri, rfl, hgo⟩
  obtain rfl : q = 0 := rep_ok hri (by decide) (by intro x hx; simp at hx; unfold okN; omega)
  have hBl := rep_len hri
  rw [if_pos rfl] at hgo
  have hs6 := replied_acq (s := { cInit with out := some cA }) (c := cA) (sn := 5) (B := B) rfl rfl
  obtain ⟨L8, RO8, h8, g8, -, -⟩ := hgo
  obtain ⟨s6, Hs6⟩ : ∃ s6, Hid (repliedS { cInit with out := some cA } cA 0 5 B = s6) := ⟨_, rfl⟩
  have h8' : ConnAt w8 w.heap.size L8 RO8 gc r s6 := by rw [← Hs6.out]; exact h8
  have hwr : s6.wr.length = 38 := by rw [← Hs6.out, hs6]; simp [cInit, hBl, len4]
  have hled : s6.led = [⟨1, [107], 5⟩] := by rw [← Hs6.out, hs6]; rfl
  have b8 := g8.blk (blk_ext B4.out X7.out) (fun e => Nat.lt_irrefl _ (H4.out.bounds.2.1 _ e).2)
  have E8 := Lib.hid (GB.to_ext g8 (E4.out.trans (X5.out.trans X7.out)) (fun i hi => (H4.out.bounds.2.1 i hi).1))
  have z0 : w8.cell? ⟨w4.heap.size, 0, none⟩ = some (.int .u8 2) := blk_cell b8 0
  have TK := Lib.hid (ctake_any w8 w.heap.size gc r L8 RO8 s6 h8')
  have HG := Lib.hid (h8'.bounds.2.1 gc h8'.bounds.1).1
  have Hwr := Lib.hid hwr; have Hled := Lib.hid hled
  clear hri hBl hs6 h8 g8 h8' hwr hled b8
  go_wp2_with fail
  refine TK.out.mono ?_
  rintro e w9 ⟨WA, wc, L9, rfl, h9, g9, -⟩
  rw [Hwr.out]
  have LD := Lib.hid (cledger_any w9 w.heap.size gc r L9 RO8 _ h9 (by show s6.led.length ≤ _; rw [Hled.out]; decide) (by show ∀ t ∈ s6.led, _; rw [Hled.out]; decide))
  have E9 := Lib.hid (GB.to_ext g9 E8.out (fun i hi => by rw [hi]; exact HG.out))
  rw [show CSt.led { s6 with wr := [] } = s6.led from rfl, Hled.out] at LD
  clear h9 g9 z0
  go_wp2_with fail
  refine LD.out.mono ?_
  rintro e w10 ⟨LA, lc, ks, rfl, hN, x10⟩
  have HN := Lib.hid hN; have X10 := Lib.hid (E9.out.trans x10)
  clear hN x10
  have kc := Lib.run_convert_bytes_const (P := Try.prog) w10 28 5 #[.int .u8 107] 1 1 Try.underlying28 Try.underlying5
  go_wp2_with fail
  have xk := ((Ext.refl w10).alloc (.cells #[.int .u8 107] 5 (1, 2))).alloc (.cells #[.int .i64 1, .slice (some ⟨w10.heap.size, 0, none⟩) 1 1, .int .i64 5] 53)
  refine (toE_q (toksSame_true _ LA _ 1 lc 1 [⟨1, [107], 5⟩] ks [(some ⟨w10.heap.size, 0, none⟩, 1)] rfl (by decide) (by decide) (HN.out.rd.ext xk) (tokRd_one (rd_newk _ [.int .i64 1, .slice (some ⟨w10.heap.size, 0, none⟩) 1 1, .int .i64 5] _ (by simp)) (by decide) ((rd_mark w10 [.int .u8 107] _ _).alloc _)))).mono ?_
  rintro e w11 ⟨rfl, x11⟩
  clear kc
  go_wp2_with fail
  go_ret
  exact retTrue (X10.out.trans (xk.trans x11))

/-- a connection; F are blocks of others -/
def ConnIn (w : World) (base gc r : Nat) (s : CSt) (F : List Nat) : Prop := ∃ L RO, ConnAt w base L RO gc r s ∧ ∀ b ∈ F, some b ∉ L ∧ ¬ RO b ∧ b < w.heap.size
/-- only its own blocks were written -/
def Gone (w w' : World) (base : Nat) (F : List Nat) : Prop := GB w w' (fun b => base ≤ b ∧ b ∉ F)
theorem Gone.ext {w w1 w2 : World} {base : Nat} {F : List Nat} (h : Gone w w1 base F) (x : Ext w1 w2) : Gone w w2 base F := GB.ext h x
theorem Gone.out {w0 w w1 : World} {F : List Nat} (h : Gone w w1 w0.heap.size F) (x : Ext w0 w) : Ext w0 w1 := GB.to_ext h x (fun _ e => e.1)
theorem Gone.blk {w w1 : World} {base : Nat} {F : List Nat} (h : Gone w w1 base F) {b : Nat} {o : Obj} (hb : w.heap[b]? = some o) (hF : b ∈ F) : w1.heap[b]? = some o := GB.blk h hb (fun e => e.2 hF)
theorem Gone.cell {w w1 : World} {base : Nat} {F : List Nat} (h : Gone w w1 base F) {b i : Nat} {v : Value} (hb : w.cell? ⟨b, i, none⟩ = some v) (hF : b ∈ F) : w1.cell? ⟨b, i, none⟩ = some v := GB.cell h hb (fun e => e.2 hF)
theorem Gone.own {w w1 : World} {base B : Nat} {F : List Nat} (h : Gone w w1 base F) {e : TypeId} {size : Nat} {v : Value} {n : Nat} {xs : List Value} (ho : w.ownsRow B e size v n xs) (hF : ∀ b, v.ownBlock = some b → b ∈ F) : w1.ownsRow B e size v n xs := GB.own h ho (fun b e1 e2 => e2.2 (hF b e1))
theorem Gone.rd {w w1 : World} {base : Nat} {F : List Nat} (h : Gone w w1 base F) {A : Option Addr} {vs : List Value} (hr : Rd w A vs) (hF : ∀ a, A = some a → a.block ∈ F ∨ a.block < base) : Rd w1 A vs := GB.rd h hr (fun a e e2 => (hF a e).elim e2.2 (fun e3 => by have := e2.1; omega))
theorem ConnIn.ext {w w1 : World} {base gc r : Nat} {s : CSt} {F : List Nat} (h : ConnIn w base gc r s F) (x : Ext w w1) : ConnIn w1 base gc r s F := by
  obtain ⟨L, RO, h1, h2⟩ := h
  exact ⟨L, RO, h1.ext x, fun b hb => ⟨(h2 b hb).1, (h2 b hb).2.1, Nat.lt_of_lt_of_le (h2 b hb).2.2 x.size⟩⟩
/-- others' blocks come and go -/
theorem ConnIn.more {w w1 : World} {base gc r : Nat} {s : CSt} {F F' : List Nat} (h : ConnIn w base gc r s F) (x : Ext w w1) (hF : ∀ b ∈ F', b ∈ F ∨ (w.heap.size ≤ b ∧ b < w1.heap.size)) : ConnIn w1 base gc r s F' := by
  obtain ⟨L, RO, h1, h2⟩ := h
  obtain ⟨b1, b2, b3⟩ := h1.bounds
  refine ⟨L, RO, h1.ext x, fun b hb => ?_⟩
  rcases hF b hb with e | e
  · exact ⟨(h2 b e).1, (h2 b e).2.1, Nat.lt_of_lt_of_le (h2 b e).2.2 x.size⟩
  · exact ⟨fun e2 => by have := (b2 b e2).2; omega, fun e2 => by have := (b3 b e2).2.2; omega, e.2⟩
/-- others write into their blocks -/
theorem ConnIn.far {w w1 : World} {base gc r : Nat} {s : CSt} {F : List Nat} {T : Nat → Prop} (h : ConnIn w base gc r s F) (g : GB w w1 T) (hT : ∀ b, T b → b ∈ F ∨ w.heap.size ≤ b) : ConnIn w1 base gc r s F := by
  obtain ⟨L, RO, h1, h2⟩ := h
  obtain ⟨b1, b2, b3⟩ := h1.bounds
  refine ⟨L, RO, h1.gb g (fun b e => ?_), fun b hb => ⟨(h2 b hb).1, (h2 b hb).2.1, Nat.lt_of_lt_of_le (h2 b hb).2.2 g.size⟩⟩
  rcases hT b e with e | e
  · exact ⟨(h2 b e).1, (h2 b e).2.1⟩
  · exact ⟨fun e2 => by have := (b2 b e2).2; omega, fun e2 => by have := (b3 b e2).2.2; omega⟩
theorem ConnIn.go {w w1 : World} {base gc r : Nat} {s s1 : CSt} {F : List Nat} {L : List (Option Nat)} {RO : Nat → Prop} (h1 : ConnAt w base L RO gc r s) (h2 : ∀ b ∈ F, some b ∉ L ∧ ¬ RO b ∧ b < w.heap.size) (k : ConnGo w base L RO gc r s1 w1) : ConnIn w1 base gc r s1 F ∧ Gone w w1 base F := by
  obtain ⟨L', RO', k1, k2, k3, k4⟩ := k
  obtain ⟨b1, b2, b3⟩ := h1.bounds
  refine ⟨⟨L', RO', k1, fun b hb => ?_⟩, k2.more (fun b _ e => ⟨(b2 b e).1, fun hb => (h2 b hb).1 e⟩)⟩
  obtain ⟨c1, c2, c3⟩ := h2 b hb
  refine ⟨fun e => (k3 b e).elim c1 (fun e => by omega), fun e => (k4 b e).elim c2 (fun e => e.elim c1 (fun e => by omega)), Nat.lt_of_lt_of_le c3 k2.size⟩
theorem ConnIn.gc_ne {w : World} {base gc r : Nat} {s : CSt} {F : List Nat} (h : ConnIn w base gc r s F) : gc ∉ F ∧ base ≤ gc := by
  obtain ⟨L, RO, h1, h2⟩ := h
  obtain ⟨b1, b2, b3⟩ := h1.bounds
  exact ⟨fun e => (h2 gc e).1 b1, (b2 gc b1).1⟩
theorem ConnIn.gc_lt {w : World} {base gc r : Nat} {s : CSt} {F : List Nat} (h : ConnIn w base gc r s F) : gc < w.heap.size := by
  obtain ⟨L, RO, h1, h2⟩ := h
  obtain ⟨b1, b2, b3⟩ := h1.bounds
  exact (b2 gc b1).2
theorem TokNew.gb {w w' : World} {base : Nat} {A : Option Addr} {n c : Nat} {l : List CTok} {ks : List KRef} {T : Nat → Prop} (h : TokNew w base A n c l ks) (g : GB w w' T) (hT : ∀ b, T b → b < base) : TokNew w' base A n c l ks :=
  ⟨h.1, h.2.1, g.own h.2.2.1 (fun b e t => by have := (h.2.2.1.lt b e).1; have := hT b t; omega), fun i q e h1 h2 => ⟨g.own (h.2.2.2 i q e h1 h2).1 (fun b e1 t => by have := ((h.2.2.2 i q e h1 h2).1.lt b e1).1; have := hT b t; omega), (h.2.2.2 i q e h1 h2).2⟩⟩
theorem cin_new (w : World) : Calls Try.prog 48 #[] w fun e w' => ∃ gc r, e = .returned (.pointer (some ⟨gc, 0, none⟩)) ∧ ConnIn w' w.heap.size gc r cInit [] ∧ Ext w w' :=
  (cnew_any w).mono fun e w' ⟨gc, r, L, RO, h1, h2, h3⟩ => ⟨gc, r, h1, ⟨L, RO, h2, fun b hb => by cases hb⟩, h3⟩
theorem cin_feed (w : World) (base gc r : Nat) (s : CSt) (F : List Nat) (h : ConnIn w base gc r s F) (hi : CInv s) (hc : s.closed = false) (hf : s.fin = 0) (hcl : s.cl = false) (A : Option Addr) (n c : Nat) (xs : List Nat) (hl : xs.length = n) (hb : ∀ x ∈ xs, x < 256) (hr : Rd w A (vals .u8 xs))
    (hN : s.ws.length + n ≤ 5000000000000) (hP : s.line.length + (parse (s.ws ++ xs)).1.length ≤ 1000000) :
    Calls Try.prog 49 #[.pointer (some ⟨gc, 0, none⟩), .slice A n c] w fun e w' => e = .returned (.int .i64 0) ∧ ConnIn w' base gc r (fedS s (s.ws ++ xs)) F ∧ Gone w w' base F := by
  obtain ⟨L, RO, h1, h2⟩ := h
  exact (cfeed_open w base gc r L RO s h1 hi hc hf hcl A n c xs hl hb hr hN hP).mono fun e w' ⟨k1, k2⟩ => ⟨k1, ConnIn.go h1 h2 k2⟩
theorem cin_feed_closed (w : World) (base gc r : Nat) (s : CSt) (F : List Nat) (h : ConnIn w base gc r s F) (hc : s.closed = true ∨ s.fin ≠ 0) (A : Option Addr) (n c : Nat) :
    Calls Try.prog 49 #[.pointer (some ⟨gc, 0, none⟩), .slice A n c] w fun e w' => e = .returned (.int .i64 13) ∧ w = w' := by
  obtain ⟨L, RO, h1, h2⟩ := h
  exact cfeed_closed w base gc r L RO s h1 hc A n c
theorem cin_next (w : World) (base gc r : Nat) (s : CSt) (F : List Nat) (h : ConnIn w base gc r s F) (ho : s.out = none) (hc : s.closed = false) (c : CCall) (rest : List CCall) (hl : s.line = c :: rest) (hk : c.key.length ≤ 5000) :
    Calls Try.prog 50 #[.pointer (some ⟨gc, 0, none⟩)] w fun x w' => ∃ A k, x = .returned (.tuple #[.agg #[.int .u8 (c.op : Int), .int .i64 (c.pol : Int), .slice A c.key.length k, .int .i64 (c.num : Int)], .int .i64 0]) ∧ ConnIn w' base gc r { s with line := rest, out := some c } F ∧ Gone w w' base F := by
  obtain ⟨L, RO, h1, h2⟩ := h
  exact (cnext_call w base gc r L RO s h1 ho hc c rest hl hk).mono fun e w' ⟨v, k1, ⟨A, k, k2⟩, k3⟩ => ⟨A, k, by rw [k1, k2], ConnIn.go h1 h2 k3⟩
theorem cin_next_busy (w : World) (base gc r : Nat) (s : CSt) (F : List Nat) (h : ConnIn w base gc r s F) (c : CCall) (ho : s.out = some c) :
    Calls Try.prog 50 #[.pointer (some ⟨gc, 0, none⟩)] w (RetE (.tuple #[callZ, .int .i64 9]) w) := by
  obtain ⟨L, RO, h1, h2⟩ := h
  exact cnext_busy w base gc r L RO s h1 c ho
theorem cin_next_closed (w : World) (base gc r : Nat) (s : CSt) (F : List Nat) (h : ConnIn w base gc r s F) (ho : s.out = none) (hc : s.closed = true) :
    Calls Try.prog 50 #[.pointer (some ⟨gc, 0, none⟩)] w (RetE (.tuple #[callZ, .int .i64 13]) w) := by
  obtain ⟨L, RO, h1, h2⟩ := h
  exact cnext_closed w base gc r L RO s h1 ho hc
theorem cin_next_end (w : World) (base gc r : Nat) (s : CSt) (F : List Nat) (h : ConnIn w base gc r s F) (hwr : s.wr.length ≤ 1000000) (ho : s.out = none) (hc : s.closed = false) (hl : s.line = []) (e : Nat) (hf : s.fin = e) (he0 : e ≠ 0) (he : e ≤ 16) :
    Calls Try.prog 50 #[.pointer (some ⟨gc, 0, none⟩)] w fun x w' => ∃ q B, RepIs (e : Int) false [0, 0, 0, 0] q B ∧ x = .returned (.tuple #[callZ, .int .i64 13]) ∧ ConnIn w' base gc r { wrote s q B with closed := true } F ∧ Gone w w' base F := by
  obtain ⟨L, RO, h1, h2⟩ := h
  exact (cnext_end w base gc r L RO s h1 hwr ho hc hl e hf he0 he).mono fun x w' ⟨q, B, k1, k2, k3⟩ => ⟨q, B, k1, k2, ConnIn.go h1 h2 k3⟩
theorem cin_reply (w : World) (base gc r : Nat) (s : CSt) (F : List Nat) (h : ConnIn w base gc r s F) (hi : CInv s) (hwr : s.wr.length ≤ 1000000) (hled : s.led.length ≤ 100000 - 1) (c : CCall) (ho : s.out = some c) (e : Nat) (he : e ≤ 16) (g : Bool) (l t sn nw : Int) :
    Calls Try.prog 52 #[.pointer (some ⟨gc, 0, none⟩), .agg #[.int .i64 (e : Int), .bool g, .int .i64 l, .int .i64 t, .int .i64 sn, .int .i64 nw]] w fun x w' => ∃ q B, RepIs (e : Int) g [l, t, sn, nw] q B ∧ x = .returned (.int .i64 q) ∧ ConnIn w' base gc r (if q = 0 then repliedS s c (e : Int) sn B else s) F ∧ Gone w w' base F := by
  obtain ⟨L, RO, h1, h2⟩ := h
  exact (creply_call w base gc r L RO s h1 hi hwr hled c ho e he g l t sn nw).mono fun x w' ⟨q, B, k1, k2, k3⟩ => ⟨q, B, k1, k2, ConnIn.go h1 h2 k3⟩
theorem cin_reply_idle (w : World) (base gc r : Nat) (s : CSt) (F : List Nat) (h : ConnIn w base gc r s F) (ho : s.out = none) (e : Int) (g : Bool) (l t sn nw : Int) :
    Calls Try.prog 52 #[.pointer (some ⟨gc, 0, none⟩), .agg #[.int .i64 e, .bool g, .int .i64 l, .int .i64 t, .int .i64 sn, .int .i64 nw]] w fun x w' => ∃ q B, RepIs e g [l, t, sn, nw] q B ∧ x = .returned (.int .i64 (if q = 0 then 7 else q)) ∧ Ext w w' := by
  obtain ⟨L, RO, h1, h2⟩ := h
  exact creply_idle w base gc r L RO s h1 ho e g l t sn nw
theorem cin_take (w : World) (base gc r : Nat) (s : CSt) (F : List Nat) (h : ConnIn w base gc r s F) :
    Calls Try.prog 53 #[.pointer (some ⟨gc, 0, none⟩)] w fun e w' => ∃ WA wc, e = .returned (.slice WA s.wr.length wc) ∧ ConnIn w' base gc r { s with wr := [] } F ∧ Gone w w' base F ∧ w'.ownsRow base 5 1 (.slice WA s.wr.length wc) s.wr.length (vals .u8 s.wr) ∧ GB w w' (· = gc) := by
  have hg := h.gc_ne
  obtain ⟨L, RO, h1, h2⟩ := h
  exact (ctake_any w base gc r L RO s h1).mono fun e w' ⟨WA, wc, L', k1, k2, k3, k4, k5, k6⟩ => ⟨WA, wc, k1, ⟨L', RO, k2, fun b hb => ⟨fun e => (h2 b hb).1 (k4 b e), (h2 b hb).2.1, Nat.lt_of_lt_of_le (h2 b hb).2.2 k3.size⟩⟩, k3.more (fun b _ e => by subst e; exact ⟨hg.2, hg.1⟩), k5, k3⟩
theorem cin_hangup (w : World) (base gc r : Nat) (s : CSt) (F : List Nat) (h : ConnIn w base gc r s F) (hn : s.led.length ≤ 100000) (hkl : ∀ t ∈ s.led, t.key.length ≤ 5000) :
    Calls Try.prog 55 #[.pointer (some ⟨gc, 0, none⟩)] w fun e w' => ∃ A c ks, e = .returned (.slice A s.led.length c) ∧ ConnIn w' base gc r (hangS s) F ∧ TokNew w' w.heap.size A s.led.length c s.led ks ∧ Gone w w' base F := by
  have hg := h.gc_ne
  obtain ⟨L, RO, h1, h2⟩ := h
  exact (changup_any w base gc r L RO s h1 hn hkl).mono fun e w' ⟨A, c, ks, L', k1, k2, k3, k4, k5⟩ => ⟨A, c, ks, k1, ⟨L', RO, k2, fun b hb => ⟨fun e => (h2 b hb).1 (k5 b e), (h2 b hb).2.1, Nat.lt_of_lt_of_le (h2 b hb).2.2 k4.size⟩⟩, k3, k4.more (fun b _ e => by subst e; exact ⟨hg.2, hg.1⟩)⟩
theorem cin_ledger (w : World) (base gc r : Nat) (s : CSt) (F : List Nat) (h : ConnIn w base gc r s F) (hn : s.led.length ≤ 100000) (hkl : ∀ t ∈ s.led, t.key.length ≤ 5000) :
    Calls Try.prog 57 #[.pointer (some ⟨gc, 0, none⟩)] w (LedR s.led w) := by
  obtain ⟨L, RO, h1, h2⟩ := h
  exact cledger_any w base gc r L RO s h1 hn hkl
theorem cin_open (w : World) (base gc r : Nat) (s : CSt) (F : List Nat) (h : ConnIn w base gc r s F) :
    Calls Try.prog 54 #[.pointer (some ⟨gc, 0, none⟩)] w fun e w' => e = .returned (.bool (!s.closed)) ∧ w = w' := by
  obtain ⟨L, RO, h1, h2⟩ := h
  exact copen_any w base gc r L RO s h1
theorem cin_waiting (w : World) (base gc r : Nat) (s : CSt) (F : List Nat) (h : ConnIn w base gc r s F) :
    Calls Try.prog 51 #[.pointer (some ⟨gc, 0, none⟩)] w fun e w' => e = .returned (.int .i64 (s.line.length : Int)) ∧ w = w' := by
  obtain ⟨L, RO, h1, h2⟩ := h
  exact cwaiting_any w base gc r L RO s h1

theorem n64_info : (Try.prog.info? 2).map (fun i => (i.zero, i.size, i.bytes)) = some (some (.int .i64 0), 1, 8) := by kernel_rfl
/-- append of one number onto a list of the call's own -/
theorem app_n64 {ops : Array Oper} {rest : List Oper} {o : Oper} {a : Act} {Q : Exit → Act → World → Prop} (w : World) (hgd : o.guard = none) (s x : Operand)
    (ho : o.op = .call { callee := .builtin .append, args := #[s, x], argTypes := #[92, 92] })
    (base : Nat) {B : Option Addr} {n cb : Nat} {xs : List Nat} (hs : a.eval s = .slice B n cb) (hown : w.ownsRow base 2 1 (.slice B n cb) n (vals .i64 xs))
    {A : Option Addr} {m c : Nat} {news : List Nat} (hx : a.eval x = .slice A m c) (hl : news.length = m) (hr : Rd w A (vals .i64 news)) (hb : n + m ≤ 17592186044416) (hbase : base ≤ w.heap.size)
    (h : ∀ B' cb' w', w'.ownsRow base 2 1 (.slice B' (n + m) cb') (n + m) (vals .i64 (xs ++ news)) → w.grownBy w' (Value.slice B n cb).ownBlock →
      ((Value.slice B' (n + m) cb').ownBlock = (Value.slice B n cb).ownBlock ∨ (Value.slice B' (n + m) cb').ownBlock = some w.heap.size) → wpList Try.prog ops Q rest (a.put o.dst (.slice B' (n + m) cb')) w') :
    wpList Try.prog ops Q (o :: rest) a w := by
  obtain ⟨i0, hi, hz0, hz1, hz2⟩ := info_parts n64_info
  refine wpList_append_rd w hgd s x 92 ho base 2 Try.underlying92 hi hz0 hz1 hz2 rfl (by decide) hs hown hx (by rw [vals_len, hl, Nat.mul_one]) hr (vals_one _ _) (by unfold maxLen; omega) (by omega) hbase ?_
  intro B' cb' w' h2 h3 h4
  rw [← vals_append] at h2
  exact h B' cb' w' h2 h3 h4
/-- the ledger of these serials -/
def ledOf (hs : List Nat) : List CTok := hs.map fun n => ⟨1, [97 + n % 2], (n : Int)⟩
theorem ledOf_len (hs : List Nat) : (ledOf hs).length = hs.length := by simp [ledOf]
theorem ledOf_keys (hs : List Nat) : ∀ t ∈ ledOf hs, t.key.length = 1 ∧ ∀ x ∈ t.key, x < 256 := fun t ht => by
  obtain ⟨n, _, rfl⟩ := List.mem_map.1 ht
  refine ⟨rfl, fun x hx => ?_⟩
  simp at hx
  omega
theorem isTok_led (n m : Nat) : isTok ⟨3, 1, [97 + n % 2], n⟩ ⟨1, [97 + m % 2], (m : Int)⟩ = decide (m = n) := by
  unfold isTok
  by_cases h : m = n
  · subst h; simp
  · rw [decide_eq_false h, decide_eq_false]
    rintro ⟨_, _, h3⟩
    dsimp only at h3
    omega
theorem idx_led {n : Nat} : ∀ {hs : List Nat} {j : Nat}, hs.Pairwise (· < ·) → hs[j]? = some n → idxT ⟨3, 1, [97 + n % 2], n⟩ (ledOf hs) = some j ∧ hs.eraseIdx j = hs.filter (fun m => decide (m ≠ n))
  | [], _, _, h => by simp at h
  | m :: hs, 0, hp, h => by
    simp at h
    subst h
    refine ⟨?_, ?_⟩
    · show idxT _ (_ :: ledOf hs) = _
      unfold idxT
      rw [isTok_led, decide_eq_true rfl, if_pos rfl]
    · rw [List.eraseIdx_zero, List.tail_cons, List.filter_cons_of_neg (by simp)]
      refine (List.filter_eq_self.2 fun x hx => ?_).symm
      have := (List.pairwise_cons.1 hp).1 x hx
      simp; omega
  | m :: hs, j + 1, hp, h => by
    have h' : hs[j]? = some n := by simpa using h
    obtain ⟨h1, h2⟩ := List.pairwise_cons.1 hp
    have hlt := h1 n (List.mem_of_getElem? h')
    obtain ⟨k1, k2⟩ := idx_led h2 h'
    refine ⟨?_, ?_⟩
    · show idxT _ (_ :: ledOf hs) = _
      unfold idxT
      rw [isTok_led, decide_eq_false (by omega), if_neg (by simp), k1]
      rfl
    · rw [List.eraseIdx_cons_succ, k2, List.filter_cons_of_pos (by simp; omega)]
theorem ledOf_erase : ∀ (hs : List Nat) (j : Nat), (ledOf hs).eraseIdx j = ledOf (hs.eraseIdx j)
  | [], _ => rfl
  | _ :: _, 0 => rfl
  | m :: hs, j + 1 => by
    show (_ :: ledOf hs).eraseIdx (j + 1) = _
    rw [List.eraseIdx_cons_succ, List.eraseIdx_cons_succ, ledOf_erase hs j]
    rfl
/-- nothing is under way -/
def Idle (s : CSt) : Prop := s.ws = [] ∧ s.cl = false ∧ s.line = [] ∧ s.fin = 0 ∧ s.out = none ∧ s.closed = false ∧ s.hung = false
/-- a released serial goes -/
theorem replied_rel {s : CSt} {B : List Nat} {hs : List Nat} {n j : Nat} (hl : s.led = ledOf hs) (hh : s.hung = false) (hp : hs.Pairwise (· < ·)) (hj : hs[j]? = some n) (sn : Int) : repliedS s ⟨3, 1, [97 + n % 2], n⟩ 0 sn B = { s with wr := s.wr ++ (len4 B.length ++ B), out := none, led := ledOf (hs.filter fun m => decide (m ≠ n)) } := by
  obtain ⟨k1, k2⟩ := idx_led hp hj
  unfold repliedS wrote
  dsimp only
  rw [if_pos rfl, if_neg (by omega), if_pos (by rfl), if_pos ⟨rfl, hh⟩, hl, k1]
  dsimp only
  rw [ledOf_erase, k2]
theorem replied_err {s : CSt} {c : CCall} {e : Int} {B : List Nat} (he : e ≠ 0) (hh : s.hung = false) (sn : Int) : repliedS s c e sn B = { s with wr := s.wr ++ (len4 B.length ++ B), out := none } := by
  unfold repliedS wrote
  rw [if_neg he, if_pos ⟨rfl, hh⟩]
/-- a row of others' grows -/
theorem ConnIn.grown {w w1 : World} {base gc r : Nat} {s : CSt} {F F' : List Nat} {row : Option Nat} (h : ConnIn w base gc r s F) (g : w.grownBy w1 row) (hr : ∀ b, row = some b → b ∈ F) (hF : ∀ b ∈ F', b ∈ F ∨ (w.heap.size ≤ b ∧ b < w1.heap.size)) : ConnIn w1 base gc r s F' := by
  obtain ⟨L, RO, h1, h2⟩ := h
  obtain ⟨b1, b2, b3⟩ := h1.bounds
  have g2 : GB w w1 (fun b => row = some b) := (GB.refl w _).grown g (fun q e => .inl e)
  refine ⟨L, RO, h1.gb g2 (fun b e => ⟨(h2 b (hr b e)).1, (h2 b (hr b e)).2.1⟩), fun b hb => ?_⟩
  rcases hF b hb with e | e
  · exact ⟨(h2 b e).1, (h2 b e).2.1, Nat.lt_of_lt_of_le (h2 b e).2.2 g.size⟩
  · exact ⟨fun e2 => by have := (b2 b e2).2; omega, fun e2 => by have := (b3 b e2).2.2; omega, e.2⟩
/-- a call's frame -/
def frameOf (c : CCall) : List Nat := len4 (reqB c.op c.pol c.key c.num).length ++ reqB c.op c.pol c.key c.num
/-- request of a right call -/
theorem crequest_norm (c : CCall) (h : NormC c.op c.pol c.key c.num) (n : Nat) (hl : c.key.length = n) (A : Option Addr) (cp : Nat) (w : World) (hr : Rd w A (vals .u8 c.key)) :
    Calls Try.prog 47 #[callV (c.op : Int) (c.pol : Int) A n cp (c.num : Int)] w (RetFr (some (frameOf c)) w) := by
  obtain ⟨op, p, xs, N⟩ := c
  unfold frameOf
  dsimp only at h hl hr ⊢
  obtain ⟨hR, hb, hz, hn⟩ := h
  obtain ⟨F, hF, -, hC⟩ := crequest_any op (by have := hR.2.1; omega) (p : Int) (N : Int) n xs hl hb
  have hFe : F = some (len4 (reqB op p xs N).length ++ reqB op p xs N) := by
    rcases hF with ⟨_, h⟩ | ⟨P', M, h1, h2, h3, h4⟩
    · exact absurd hR (h p N (fun _ => rfl) (fun _ => rfl))
    · have : reqB op P' xs M = reqB op p xs N := by
        by_cases h5 : 5 ≤ op
        · rw [reqB_56 (by have := hR.2.1; omega), reqB_56 (by have := hR.2.1; omega)]
        · have e1 : P' = p := by have := h1 (by omega); omega
          subst e1
          by_cases h13 : op = 1 ∨ op = 3
          · have e2 : M = N := by have := h2 h13; omega
            rw [e2]
          · have h24 : op = 2 ∨ op = 4 := by have := hR.1; omega
            rcases h24 with rfl | rfl
            · rw [reqB_2, reqB_2]
            · rw [reqB_4, reqB_4]
      rw [h4, this]
  rw [hFe] at hC
  exact hC A cp w hr
theorem norm_len' {c : CCall} (h : NormC c.op c.pol c.key c.num) : c.key.length ≤ 255 ∧ 1 ≤ (reqB c.op c.pol c.key c.num).length ∧ (reqB c.op c.pol c.key c.num).length ≤ 1000 ∧ (∀ x ∈ reqB c.op c.pol c.key c.num, x < 256) := by
  have hk : c.key.length ≤ 255 := by
    by_cases h5 : 5 ≤ c.op
    · rw [(h.2.2.1 h5).2.1]; simp
    · exact (h.1.2.2.1 (by omega)).2
  exact ⟨hk, reqB_pos' _ _ _ _, reqB_len' hk, reqB_lt h.1 h.2.1⟩
/-- a right call's frame is fed -/
theorem cin_feed_one (w : World) (base gc r : Nat) (s : CSt) (F : List Nat) (h : ConnIn w base gc r s F) (hi : CInv s) (hid : s.ws = [] ∧ s.cl = false ∧ s.fin = 0 ∧ s.closed = false) (hline : s.line.length ≤ 1000) (c : CCall) (hc : NormC c.op c.pol c.key c.num) (A : Option Addr) (cp : Nat) (L : List Nat) (hL : frameOf c = L) (n : Nat) (hn : L.length = n) (hr : Rd w A (vals .u8 L)) :
    Calls Try.prog 49 #[.pointer (some ⟨gc, 0, none⟩), .slice A n cp] w fun e w' => e = .returned (.int .i64 0) ∧ ConnIn w' base gc r { s with line := s.line ++ [c] } F ∧ Gone w w' base F := by
  obtain ⟨i1, i2, i3, i4⟩ := hid
  replace hL : L = len4 (reqB c.op c.pol c.key c.num).length ++ reqB c.op c.pol c.key c.num := hL.symm
  obtain ⟨-, l1, l2, l3⟩ := norm_len' hc
  have hfs := fed_one i1 i2 i3 l1 (by omega) (decC_of hc)
  have hb : ∀ x ∈ L, x < 256 := fun x hx => by
    rw [hL] at hx
    exact (List.mem_append.1 hx).elim (len4_lt _ x) (l3 x)
  have hp : (parse (s.ws ++ L)).1.length ≤ 1000 + 10 := by
    obtain ⟨k1, -, -⟩ := parse_small ((s.ws ++ L).length + 1) (s.ws ++ L) (by omega)
    rw [i1, List.nil_append] at k1 ⊢
    rw [hL, List.length_append] at k1
    rw [hL]
    simp [len4] at k1
    simp [len4]
    omega
  have hnn : n ≤ 1010 := by rw [← hn, hL, List.length_append]; simp [len4]; omega
  have := cin_feed w base gc r s F h hi i4 i3 i2 A n cp L hn hb hr (by rw [i1]; simp; omega) (by omega)
  rw [hL, hfs] at this
  exact this
theorem norm_acq {kb : Nat} (hkb : kb < 256) : NormC (⟨2, 1, [kb], 0⟩ : CCall).op (⟨2, 1, [kb], 0⟩ : CCall).pol (⟨2, 1, [kb], 0⟩ : CCall).key (⟨2, 1, [kb], 0⟩ : CCall).num := by
  show NormC 2 1 [kb] 0
  exact ⟨⟨by omega, by omega, fun _ => ⟨by omega, by simp⟩, (fun h => by cases h), (fun h => by cases h)⟩, (fun x hx => by simp at hx; omega), (fun h => by omega), fun _ => rfl⟩
theorem norm_rel {kb m : Nat} (hkb : kb < 256) (h1 : 1 ≤ m) (h2 : m ≤ 1000) : NormC (⟨3, 1, [kb], m⟩ : CCall).op (⟨3, 1, [kb], m⟩ : CCall).pol (⟨3, 1, [kb], m⟩ : CCall).key (⟨3, 1, [kb], m⟩ : CCall).num := by
  show NormC 3 1 [kb] m
  exact ⟨⟨by omega, by omega, fun _ => ⟨by omega, by simp⟩, (fun h => by cases h), (fun _ => ⟨h1, by omega⟩)⟩, (fun x hx => by simp at hx; omega), (fun h => by omega), fun h => by omega⟩
end

section
open Go.RowKit

/-- the number that counts -/
def usedN (op : Int) (N : Int) : Int := if op = 2 ∨ op = 4 then 0 else N
theorem used_big (w : World) (op p N : Int) (A : Option Addr) (n c : Nat) (h : 4 < op) :
    Calls Try.prog 40 #[callV op p A n c N] w (RetE (callV op 0 none 0 0 0) w) := by
  go_enter Try.func40, Try.ntmps40
  go_wp2_with fail
  refine bodyPost_ret (ret_call1 rfl rfl (blk_newk _ _ (by simp))) rfl ?_
  exact ⟨rfl, ((Ext.refl w).alloc _).alloc _⟩
theorem used_24 (w : World) (op p N : Int) (A : Option Addr) (n c : Nat) (h : op = 2 ∨ op = 4) :
    Calls Try.prog 40 #[callV op p A n c N] w (RetE (callV op p A n c 0) w) := by
  have hh : (op == 2) = true ∨ ((op == 2) = false ∧ (op == 4) = true) := by
    rcases h with h | h
    · left; rw [beq_iff_eq]; exact h
    · right; exact ⟨by rw [beq_eq_false_iff_ne]; omega, by rw [beq_iff_eq]; exact h⟩
  have h4 : op ≤ 4 := by omega
  clear h
  rcases hh with h2 | ⟨h2, h2'⟩
  all_goals
    go_enter Try.func40, Try.ntmps40
    go_wp2_with fail
    refine bodyPost_ret (ret_call1 rfl rfl (blk_newk _ _ (by simp))) rfl ?_
    exact ⟨rfl, ((Ext.refl w).alloc _).alloc _⟩
theorem used_13 (w : World) (op p N : Int) (A : Option Addr) (n c : Nat) (h4 : op ≤ 4) (h : ¬ (op = 2 ∨ op = 4)) :
    Calls Try.prog 40 #[callV op p A n c N] w (RetE (callV op p A n c N) w) := by
  have h2 : (op == 2) = false := by rw [beq_eq_false_iff_ne]; omega
  have h3 : (op == 4) = false := by rw [beq_eq_false_iff_ne]; omega
  clear h
  go_enter Try.func40, Try.ntmps40
  go_wp2_with fail
  refine bodyPost_ret (ret_call1 rfl rfl (blk_newk _ _ (by simp))) rfl ?_
  exact ⟨rfl, ((Ext.refl w).alloc _).alloc _⟩
end

section
open Go.RowKit

theorem docReply_e (w : World) (e : Int) (g : Bool) (l t s n : Int) (h : e < 0 ∨ 16 < e) : Calls Try.prog 43 #[repV e g l t s n] w (RetBE [] 1 w) := by
  rcases h with h | h
  · go_enter Try.func43, Try.ntmps43
    go_wp2_with fail
    go_ret2
    exact retBE_none ⟨rfl, (Ext.refl w).alloc _⟩
  · have h' : ¬ e < 0 := by omega
    go_enter Try.func43, Try.ntmps43
    go_wp2_with fail
    go_ret2
    exact retBE_none ⟨rfl, (Ext.refl w).alloc _⟩
theorem docReply_n (w : World) (e : Int) (g : Bool) (l t s n : Int) (h0 : 0 ≤ e) (h16 : e ≤ 16) (h : ¬ (okN l ∧ okN t ∧ okN s ∧ okN n)) : Calls Try.prog 43 #[repV e g l t s n] w (RetBE [] 1 w) := by
  unfold okN at h
  by_cases hl : l < 0 ∨ 4611686018427387903 < l
  · clear h
    go_enter Try.func43, Try.ntmps43
    go_wp2_with fail
    refine (refForm_bad l _ hl).mono ?_
    rintro e' w1 ⟨rfl, rfl⟩
    go_wp2_with fail
    go_ret2
    exact retBE_none ⟨rfl, (Ext.refl w).alloc _⟩
  have l1 : 0 ≤ l := by omega
  have l2 : l ≤ 4611686018427387903 := by omega
  by_cases ht : t < 0 ∨ 4611686018427387903 < t
  · clear h
    go_enter Try.func43, Try.ntmps43
    go_wp2_with fail
    refine (refForm_ok l _ l1 l2).mono ?_
    rintro e' w1 ⟨rfl, rfl⟩
    go_wp2_with fail
    refine (refForm_bad t _ ht).mono ?_
    rintro e' w1 ⟨rfl, rfl⟩
    go_wp2_with fail
    go_ret2
    exact retBE_none ⟨rfl, (Ext.refl w).alloc _⟩
  have t1 : 0 ≤ t := by omega
  have t2 : t ≤ 4611686018427387903 := by omega
  by_cases hs : s < 0 ∨ 4611686018427387903 < s
  · clear h
    go_enter Try.func43, Try.ntmps43
    go_wp2_with fail
    refine (refForm_ok l _ l1 l2).mono ?_
    rintro e' w1 ⟨rfl, rfl⟩
    go_wp2_with fail
    refine (refForm_ok t _ t1 t2).mono ?_
    rintro e' w1 ⟨rfl, rfl⟩
    go_wp2_with fail
    refine (refForm_bad s _ hs).mono ?_
    rintro e' w1 ⟨rfl, rfl⟩
    go_wp2_with fail
    go_ret2
    exact retBE_none ⟨rfl, (Ext.refl w).alloc _⟩
  have s1 : 0 ≤ s := by omega
  have s2 : s ≤ 4611686018427387903 := by omega
  have hn : n < 0 ∨ 4611686018427387903 < n := by omega
  clear h
  go_enter Try.func43, Try.ntmps43
  go_wp2_with fail
  refine (refForm_ok l _ l1 l2).mono ?_
  rintro e' w1 ⟨rfl, rfl⟩
  go_wp2_with fail
  refine (refForm_ok t _ t1 t2).mono ?_
  rintro e' w1 ⟨rfl, rfl⟩
  go_wp2_with fail
  refine (refForm_ok s _ s1 s2).mono ?_
  rintro e' w1 ⟨rfl, rfl⟩
  go_wp2_with fail
  refine (refForm_bad n _ hn).mono ?_
  rintro e' w1 ⟨rfl, rfl⟩
  go_wp2_with fail
  go_ret2
  exact retBE_none ⟨rfl, (Ext.refl w).alloc _⟩
/-- a reply's cells -/
theorem repBlk {w w' : World} {c : Array Value} {t : TypeId} (hx : Ext (w.alloc (.cells c t)) w') : w'.heap[w.heap.size]? = some (.cells c t (0, 0)) := blk_ext (blk_new w _) hx

set_option maxHeartbeats 4000000 in
set_option maxRecDepth 100000 in
theorem docReply_false (w : World) (e l t s n : Nat) (he : e ≤ 16) (hl : l ≤ 4611686018427387903) (ht : t ≤ 4611686018427387903) (hs : s ≤ 4611686018427387903) (hn : n ≤ 4611686018427387903) :
    Calls Try.prog 43 #[repV (e : Int) false (l : Int) (t : Int) (s : Int) (n : Int)] w (RetBE (repB e false [l, t, s, n]) 0 w) := by
  have hw : IntKind.u8.wrap (e : Int) = (e : Int) := by rw [IntKind.wrap_u8]; omega
  go_enter Try.func43, Try.ntmps43
  go_wp2_with fail
  refine (refForm_ok (l : Int) _ (by omega) (by omega)).mono ?_
  rintro e' w1 ⟨rfl, rfl⟩
  go_wp2_with fail
  refine (refForm_ok (t : Int) _ (by omega) (by omega)).mono ?_
  rintro e' w1 ⟨rfl, rfl⟩
  go_wp2_with fail
  refine (refForm_ok (s : Int) _ (by omega) (by omega)).mono ?_
  rintro e' w1 ⟨rfl, rfl⟩
  go_wp2_with fail
  refine (refForm_ok (n : Int) _ (by omega) (by omega)).mono ?_
  rintro e' w1 ⟨rfl, rfl⟩
  go_wp2_with fail
  refine (docWord_any _ l 8 (by omega) (by omega)).mono ?_
  rintro e' w1 ⟨A1, c1, rfl, hw1, hy1⟩
  rw [wordB_len] at hw1 ⊢
  have R1 := Lib.hid (Rd.of_own hw1)
  have O0 := Lib.hid (own_ext (own_madek (w.alloc (.cells #[.int .i64 (e : Int), .bool false, .int .i64 (l : Int), .int .i64 (t : Int), .int .i64 (s : Int), .int .i64 (n : Int)] 74)) [.int .u8 (e : Int), .int .u8 0] 5 1 2 rfl (by unfold maxLen; omega) (by simp) (Nat.le_refl (w.heap.size + 1))) hy1)
  have K1 := Lib.hid (blk_ext (blk_past (blk_new w _) _) hy1)
  have hx1 : Ext w w1 := (((Ext.refl w).alloc _).alloc _).trans hy1
  have hs1 : w.heap.size + 1 ≤ w1.heap.size := blk_lt K1.out
  clear hw1 hy1
  have a3 := blk_cell K1.out 3
  have o1 : w1.ownsRow (w.heap.size + 1) 5 1 (.slice (some ⟨w.heap.size + 1, 0, none⟩) 2 2) 2 (vals .u8 [e, 0]) := O0.out
  go_wp2_with (first | (at_builtin; refine app_u8 _ rfl (.tmp 48) (.tmp 52) rfl (w.heap.size + 1) rfl o1 rfl (wordB_len l 8) R1.out (by omega) hs1 ?_; intro B1 d1 v1 hown1 hgrow1 _; have hv1 : Ext w v1 := hx1.grown hgrow1 (fun q hq => by have := own_ge o1 q hq; omega); have KK1 : Hid (v1.heap[w.heap.size]? = some (.cells #[.int .i64 (e : Int), .bool false, .int .i64 (l : Int), .int .i64 (t : Int), .int .i64 (s : Int), .int .i64 (n : Int)] 74 (0, 0))) := (hgrow1.block _ (blk_lt K1.out) (fun h => by have := own_ge o1 _ h.symm; omega)).trans K1.out; have q1 := blk_cell KK1.out 3) | fail)
  have HO1 := Lib.hid hown1
  clear hown1 hgrow1 o1
  refine (docWord_any v1 t 8 (by omega) (by omega)).mono ?_
  rintro e' w2 ⟨A2, c2, rfl, hw2, hy2⟩
  rw [wordB_len] at hw2 ⊢
  have R2 := Lib.hid (Rd.of_own hw2)
  have O1 := Lib.hid (own_ext HO1.out hy2)
  have K2 := Lib.hid (blk_ext KK1.out hy2)
  have hx2 : Ext w w2 := hv1.trans hy2
  have hs2 : w.heap.size + 1 ≤ w2.heap.size := blk_lt K2.out
  clear hw2 hy2 q1
  have b2 := blk_cell K2.out 4
  have o2 : w2.ownsRow (w.heap.size + 1) 5 1 (.slice B1 10 d1) 10 (vals .u8 ([e, 0] ++ wordB l 8)) := O1.out
  go_wp2_with (first | (at_builtin; refine app_u8 _ rfl (.tmp 54) (.tmp 58) rfl (w.heap.size + 1) rfl o2 rfl (wordB_len t 8) R2.out (by omega) hs2 ?_; intro B2 d2 v2 hown2 hgrow2 _; have hv2 : Ext w v2 := hx2.grown hgrow2 (fun q hq => by have := own_ge o2 q hq; omega); have KK2 : Hid (v2.heap[w.heap.size]? = some (.cells #[.int .i64 (e : Int), .bool false, .int .i64 (l : Int), .int .i64 (t : Int), .int .i64 (s : Int), .int .i64 (n : Int)] 74 (0, 0))) := (hgrow2.block _ (blk_lt K2.out) (fun h => by have := own_ge o2 _ h.symm; omega)).trans K2.out; have q2 := blk_cell KK2.out 4) | fail)
  have HO2 := Lib.hid hown2
  clear hown2 hgrow2 o2
  refine (docWord_any v2 s 8 (by omega) (by omega)).mono ?_
  rintro e' w3 ⟨A3, c3, rfl, hw3, hy3⟩
  rw [wordB_len] at hw3 ⊢
  have R3 := Lib.hid (Rd.of_own hw3)
  have O2 := Lib.hid (own_ext HO2.out hy3)
  have K3 := Lib.hid (blk_ext KK2.out hy3)
  have hx3 : Ext w w3 := hv2.trans hy3
  have hs3 : w.heap.size + 1 ≤ w3.heap.size := blk_lt K3.out
  clear hw3 hy3 q2
  have b3 := blk_cell K3.out 5
  have o3 : w3.ownsRow (w.heap.size + 1) 5 1 (.slice B2 18 d2) 18 (vals .u8 ([e, 0] ++ wordB l 8 ++ wordB t 8)) := O2.out
  go_wp2_with (first | (at_builtin; refine app_u8 _ rfl (.tmp 60) (.tmp 64) rfl (w.heap.size + 1) rfl o3 rfl (wordB_len s 8) R3.out (by omega) hs3 ?_; intro B3 d3 v3 hown3 hgrow3 _; have hv3 : Ext w v3 := hx3.grown hgrow3 (fun q hq => by have := own_ge o3 q hq; omega); have KK3 : Hid (v3.heap[w.heap.size]? = some (.cells #[.int .i64 (e : Int), .bool false, .int .i64 (l : Int), .int .i64 (t : Int), .int .i64 (s : Int), .int .i64 (n : Int)] 74 (0, 0))) := (hgrow3.block _ (blk_lt K3.out) (fun h => by have := own_ge o3 _ h.symm; omega)).trans K3.out; have q3 := blk_cell KK3.out 5) | fail)
  have HO3 := Lib.hid hown3
  clear hown3 hgrow3 o3
  refine (docWord_any v3 n 8 (by omega) (by omega)).mono ?_
  rintro e' w4 ⟨A4, c4, rfl, hw4, hy4⟩
  rw [wordB_len] at hw4 ⊢
  have R4 := Lib.hid (Rd.of_own hw4)
  have O3 := Lib.hid (own_ext HO3.out hy4)
  have K4 := Lib.hid (blk_ext KK3.out hy4)
  have hx4 : Ext w w4 := hv3.trans hy4
  have hs4 : w.heap.size + 1 ≤ w4.heap.size := blk_lt K4.out
  clear hw4 hy4 q3
  have b4 := blk_cell K4.out 5
  have o4 : w4.ownsRow (w.heap.size + 1) 5 1 (.slice B3 26 d3) 26 (vals .u8 ([e, 0] ++ wordB l 8 ++ wordB t 8 ++ wordB s 8)) := O3.out
  go_wp2_with (first | (at_builtin; refine app_u8 _ rfl (.tmp 66) (.tmp 70) rfl (w.heap.size + 1) rfl o4 rfl (wordB_len n 8) R4.out (by omega) hs4 ?_; intro B4 d4 v4 hown4 hgrow4 _; have hv4 : Ext w v4 := hx4.grown hgrow4 (fun q hq => by have := own_ge o4 q hq; omega); have KK4 : Hid (v4.heap[w.heap.size]? = some (.cells #[.int .i64 (e : Int), .bool false, .int .i64 (l : Int), .int .i64 (t : Int), .int .i64 (s : Int), .int .i64 (n : Int)] 74 (0, 0))) := (hgrow4.block _ (blk_lt K4.out) (fun h => by have := own_ge o4 _ h.symm; omega)).trans K4.out; have q4 := blk_cell KK4.out 5) | fail)
  go_ret2
  have hlen : (repB e false [l, t, s, n]).length = 34 := repB_len e false [l, t, s, n]
  refine retBE_of hlen ?_ hv4
  have e1 : repB e false [l, t, s, n] = [e, 0] ++ wordB l 8 ++ wordB t 8 ++ wordB s 8 ++ wordB n 8 := by simp [repB, words, oneIf]
  rw [e1]
  exact own_base hown4 (by omega)

set_option maxHeartbeats 4000000 in
set_option maxRecDepth 100000 in
theorem docReply_true (w : World) (e l t s n : Nat) (he : e ≤ 16) (hl : l ≤ 4611686018427387903) (ht : t ≤ 4611686018427387903) (hs : s ≤ 4611686018427387903) (hn : n ≤ 4611686018427387903) :
    Calls Try.prog 43 #[repV (e : Int) true (l : Int) (t : Int) (s : Int) (n : Int)] w (RetBE (repB e true [l, t, s, n]) 0 w) := by
  have hw : IntKind.u8.wrap (e : Int) = (e : Int) := by rw [IntKind.wrap_u8]; omega
  go_enter Try.func43, Try.ntmps43
  go_wp2_with fail
  refine (refForm_ok (l : Int) _ (by omega) (by omega)).mono ?_
  rintro e' w1 ⟨rfl, rfl⟩
  go_wp2_with fail
  refine (refForm_ok (t : Int) _ (by omega) (by omega)).mono ?_
  rintro e' w1 ⟨rfl, rfl⟩
  go_wp2_with fail
  refine (refForm_ok (s : Int) _ (by omega) (by omega)).mono ?_
  rintro e' w1 ⟨rfl, rfl⟩
  go_wp2_with fail
  refine (refForm_ok (n : Int) _ (by omega) (by omega)).mono ?_
  rintro e' w1 ⟨rfl, rfl⟩
  go_wp2_with fail
  refine (docWord_any _ l 8 (by omega) (by omega)).mono ?_
  rintro e' w1 ⟨A1, c1, rfl, hw1, hy1⟩
  rw [wordB_len] at hw1 ⊢
  have R1 := Lib.hid (Rd.of_own hw1)
  have O0 := Lib.hid (own_ext (own_madek (w.alloc (.cells #[.int .i64 (e : Int), .bool true, .int .i64 (l : Int), .int .i64 (t : Int), .int .i64 (s : Int), .int .i64 (n : Int)] 74)) [.int .u8 (e : Int), .int .u8 1] 5 1 2 rfl (by unfold maxLen; omega) (by simp) (Nat.le_refl (w.heap.size + 1))) hy1)
  have K1 := Lib.hid (blk_ext (blk_past (blk_new w _) _) hy1)
  have hx1 : Ext w w1 := (((Ext.refl w).alloc _).alloc _).trans hy1
  have hs1 : w.heap.size + 1 ≤ w1.heap.size := blk_lt K1.out
  clear hw1 hy1
  have a3 := blk_cell K1.out 3
  have o1 : w1.ownsRow (w.heap.size + 1) 5 1 (.slice (some ⟨w.heap.size + 1, 0, none⟩) 2 2) 2 (vals .u8 [e, 1]) := O0.out
  go_wp2_with (first | (at_builtin; refine app_u8 _ rfl (.tmp 48) (.tmp 52) rfl (w.heap.size + 1) rfl o1 rfl (wordB_len l 8) R1.out (by omega) hs1 ?_; intro B1 d1 v1 hown1 hgrow1 _; have hv1 : Ext w v1 := hx1.grown hgrow1 (fun q hq => by have := own_ge o1 q hq; omega); have KK1 : Hid (v1.heap[w.heap.size]? = some (.cells #[.int .i64 (e : Int), .bool true, .int .i64 (l : Int), .int .i64 (t : Int), .int .i64 (s : Int), .int .i64 (n : Int)] 74 (0, 0))) := (hgrow1.block _ (blk_lt K1.out) (fun h => by have := own_ge o1 _ h.symm; omega)).trans K1.out; have q1 := blk_cell KK1.out 3) | fail)
  have HO1 := Lib.hid hown1
  clear hown1 hgrow1 o1
  refine (docWord_any v1 t 8 (by omega) (by omega)).mono ?_
  rintro e' w2 ⟨A2, c2, rfl, hw2, hy2⟩
  rw [wordB_len] at hw2 ⊢
  have R2 := Lib.hid (Rd.of_own hw2)
  have O1 := Lib.hid (own_ext HO1.out hy2)
  have K2 := Lib.hid (blk_ext KK1.out hy2)
  have hx2 : Ext w w2 := hv1.trans hy2
  have hs2 : w.heap.size + 1 ≤ w2.heap.size := blk_lt K2.out
  clear hw2 hy2 q1
  have b2 := blk_cell K2.out 4
  have o2 : w2.ownsRow (w.heap.size + 1) 5 1 (.slice B1 10 d1) 10 (vals .u8 ([e, 1] ++ wordB l 8)) := O1.out
  go_wp2_with (first | (at_builtin; refine app_u8 _ rfl (.tmp 54) (.tmp 58) rfl (w.heap.size + 1) rfl o2 rfl (wordB_len t 8) R2.out (by omega) hs2 ?_; intro B2 d2 v2 hown2 hgrow2 _; have hv2 : Ext w v2 := hx2.grown hgrow2 (fun q hq => by have := own_ge o2 q hq; omega); have KK2 : Hid (v2.heap[w.heap.size]? = some (.cells #[.int .i64 (e : Int), .bool true, .int .i64 (l : Int), .int .i64 (t : Int), .int .i64 (s : Int), .int .i64 (n : Int)] 74 (0, 0))) := (hgrow2.block _ (blk_lt K2.out) (fun h => by have := own_ge o2 _ h.symm; omega)).trans K2.out; have q2 := blk_cell KK2.out 4) | fail)
  have HO2 := Lib.hid hown2
  clear hown2 hgrow2 o2
  refine (docWord_any v2 s 8 (by omega) (by omega)).mono ?_
  rintro e' w3 ⟨A3, c3, rfl, hw3, hy3⟩
  rw [wordB_len] at hw3 ⊢
  have R3 := Lib.hid (Rd.of_own hw3)
  have O2 := Lib.hid (own_ext HO2.out hy3)
  have K3 := Lib.hid (blk_ext KK2.out hy3)
  have hx3 : Ext w w3 := hv2.trans hy3
  have hs3 : w.heap.size + 1 ≤ w3.heap.size := blk_lt K3.out
  clear hw3 hy3 q2
  have b3 := blk_cell K3.out 5
  have o3 : w3.ownsRow (w.heap.size + 1) 5 1 (.slice B2 18 d2) 18 (vals .u8 ([e, 1] ++ wordB l 8 ++ wordB t 8)) := O2.out
  go_wp2_with (first | (at_builtin; refine app_u8 _ rfl (.tmp 60) (.tmp 64) rfl (w.heap.size + 1) rfl o3 rfl (wordB_len s 8) R3.out (by omega) hs3 ?_; intro B3 d3 v3 hown3 hgrow3 _; have hv3 : Ext w v3 := hx3.grown hgrow3 (fun q hq => by have := own_ge o3 q hq; omega); have KK3 : Hid (v3.heap[w.heap.size]? = some (.cells #[.int .i64 (e : Int), .bool true, .int .i64 (l : Int), .int .i64 (t : Int), .int .i64 (s : Int), .int .i64 (n : Int)] 74 (0, 0))) := (hgrow3.block _ (blk_lt K3.out) (fun h => by have := own_ge o3 _ h.symm; omega)).trans K3.out; have q3 := blk_cell KK3.out 5) | fail)
  have HO3 := Lib.hid hown3
  clear hown3 hgrow3 o3
  refine (docWord_any v3 n 8 (by omega) (by omega)).mono ?_
  rintro e' w4 ⟨A4, c4, rfl, hw4, hy4⟩
  rw [wordB_len] at hw4 ⊢
  have R4 := Lib.hid (Rd.of_own hw4)
  have O3 := Lib.hid (own_ext HO3.out hy4)
  have K4 := Lib.hid (blk_ext KK3.out hy4)
  have hx4 : Ext w w4 := hv3.trans hy4
  have hs4 : w.heap.size + 1 ≤ w4.heap.size := blk_lt K4.out
  clear hw4 hy4 q3
  have b4 := blk_cell K4.out 5
  have o4 : w4.ownsRow (w.heap.size + 1) 5 1 (.slice B3 26 d3) 26 (vals .u8 ([e, 1] ++ wordB l 8 ++ wordB t 8 ++ wordB s 8)) := O3.out
  go_wp2_with (first | (at_builtin; refine app_u8 _ rfl (.tmp 66) (.tmp 70) rfl (w.heap.size + 1) rfl o4 rfl (wordB_len n 8) R4.out (by omega) hs4 ?_; intro B4 d4 v4 hown4 hgrow4 _; have hv4 : Ext w v4 := hx4.grown hgrow4 (fun q hq => by have := own_ge o4 q hq; omega); have KK4 : Hid (v4.heap[w.heap.size]? = some (.cells #[.int .i64 (e : Int), .bool true, .int .i64 (l : Int), .int .i64 (t : Int), .int .i64 (s : Int), .int .i64 (n : Int)] 74 (0, 0))) := (hgrow4.block _ (blk_lt K4.out) (fun h => by have := own_ge o4 _ h.symm; omega)).trans K4.out; have q4 := blk_cell KK4.out 5) | fail)
  go_ret2
  have hlen : (repB e true [l, t, s, n]).length = 34 := repB_len e true [l, t, s, n]
  refine retBE_of hlen ?_ hv4
  have e1 : repB e true [l, t, s, n] = [e, 1] ++ wordB l 8 ++ wordB t 8 ++ wordB s 8 ++ wordB n 8 := by simp [repB, words, oneIf]
  rw [e1]
  exact own_base hown4 (by omega)
end

section
open Go.RowKit
set_option maxHeartbeats 1000000 in
set_option maxRecDepth 100000 in
theorem read_goodP (w : World) (A0 : Option Addr) (n c0 g : Nat) (t : TypeId) (cs : Option Addr → Nat → Array Value) (ys xs : List Nat) (hl : ys.length = n) (hn : n ≤ 4096) (hnc : n ≤ c0) (hr : Rd w A0 (vals .u8 ys)) (hg : g < w.heap.size) (S : Nat) (hSw : S ≤ w.heap.size) (hA0 : ys ≠ [] → ∀ a, A0 = some a → a.block < S)
    (HC0 : ∀ W r, IsWs W r S ys → w.heap.size ≤ r → W.heap[g]? = w.heap[g]? → w.heap.size ≤ W.heap.size → Calls Try.prog 80 #[.pointer (some ⟨r, 0, none⟩), .pointer (some ⟨g, 0, none⟩)] W (ByR t cs xs [] r S g W)) :
    Calls Try.prog 76 #[.slice A0 n c0, .func (.func 80) #[] #[.pointer (some ⟨g, 0, none⟩)]] w fun e w' => ∃ A c, e = .returned (.int .i64 0) ∧ w.grownBy w' (some g) ∧ w'.heap[g]? = some (.cells (cs A c) t (0, 0)) ∧ w'.ownsRow w.heap.size 5 1 (.slice A xs.length c) xs.length (vals .u8 xs) := by
  have hmf : ∀ (fn : Fn) (first cap : Array Value) (w : World), (Instr.makeFunc fn first cap).run Try.prog w = .ok (.func fn first cap) w := fun _ _ _ _ => rfl
  have HC := Lib.hid HC0; clear HC0
  have hws : ∀ o o' : Obj, Rd ((w.alloc o).alloc o') A0 (vals .u8 ys) := fun o o' => (hr.alloc o).alloc o'
  have hlt : ∀ a, A0 = some a → ys ≠ [] → a.block < S := fun a ha hne => hA0 hne a ha
  have Hws := Lib.hid hws; have Hlt := Lib.hid hlt; have Hl := Lib.hid hl
  have Hg := Lib.hid (fun o o' : Obj => (blk_far2 w o o' g hg)); clear hws hlt hl hr hA0
  go_enter_defers Try.func76, Try.ntmps76
  go_wp2_with fail
  obtain ⟨W, hW⟩ : ∃ W, (w.alloc (.cells #[.int .i64 0] 33)).alloc (.cells #[.slice A0 n c0] 155) = W := ⟨_, rfl⟩
  have hsW : w.heap.size + 2 = W.heap.size := by rw [← hW]; simp
  have hIW : IsWs W (w.heap.size + 1) S ys := by
    rw [← hW]
    refine ⟨A0, c0, ?_, by rw [Hl.out]; exact hnc, Hws.out _ _, fun hne a ha => ?_⟩
    · rw [Hl.out]; exact blk_newk _ _ (by simp)
    · have := Hlt.out a ha hne; exact ⟨by omega, this⟩
  have hEW : W.heap[w.heap.size]? = some (.cells #[.int .i64 0] 33 (0, 0)) := by rw [← hW]; exact blk_past (blk_new w _) _
  have hgW : W.heap[g]? = w.heap[g]? := by rw [← hW]; exact Hg.out _ _
  have hGW : Ext w W := by rw [← hW]; exact ((Ext.refl w).alloc _).alloc _
  have C := Lib.hid (HC.out W (w.heap.size + 1) hIW (by omega) hgW (by omega))
  have HE := Lib.hid hEW; have HGW := Lib.hid hGW
  rw [hW]
  clear hW hIW hEW hgW hGW HC Hws Hg
  refine C.out.mono ?_
  rintro e w2 ⟨A, c, wm, rfl, hg1, hg2, hcs, ho, hS⟩
  obtain ⟨A2, c2, hw2, _, _, _⟩ := hS
  have h0 : w2.cell? ⟨w.heap.size + 1, 0, none⟩ = some (.slice A2 0 c2) := blk_cell hw2 0
  have HE2 := Lib.hid (blk_grown (blk_grown HE.out hg1 (by omega)) hg2 (by omega))
  have HG2 := Lib.hid (grown_new2 HGW.out hg1 hg2 (by omega))
  have Hcs := Lib.hid hcs; have Ho := Lib.hid ho
  have hs2 : W.heap.size ≤ w2.heap.size := Nat.le_trans hg1.size hg2.size
  clear hg1 hg2 hcs ho hw2 C HE HGW
  go_wp2_with fail
  refine (must_ok _ _).mono ?_
  rintro e w' ⟨rfl, rfl⟩
  have e0 := blk_cell HE2.out 0; have f0 := blk_frozen HE2.out 0
  go_wp2_with fail
  refine leaves_cons (f := 102) (args := #[.pointer (some ⟨w.heap.size, 0, none⟩)]) (by simp) (by simp [go_sem]) ?_
  refine (rundo_idle _ _).mono ?_
  rintro e u' w'' ⟨rfl, rfl, rfl⟩
  have hG := grown_set w2 w.heap.size 0 (.int .i64 0)
  have hoo : w2.ownsRow (w.heap.size + 1) 5 1 (.slice A xs.length c) xs.length (vals .u8 xs) := own_base Ho.out (by omega)
  exact ⟨_, res_errno rfl (blk_set HE2.out 0 _), A, c, rfl, grown_setNew HG2.out (Nat.le_refl _) 0 _, blk_grown' Hcs.out hG (by omega), own_base (hoo.kept hG (own_ne hoo (by omega))) (by omega)⟩
set_option maxHeartbeats 1000000 in
set_option maxRecDepth 100000 in
theorem read_moreP (w : World) (A0 : Option Addr) (n c0 g : Nat) (t : TypeId) (cs : Option Addr → Nat → Array Value) (ys xs rest : List Nat) (hrest : rest ≠ []) (hl : ys.length = n) (hn : n ≤ 4096) (hnc : n ≤ c0) (hr : Rd w A0 (vals .u8 ys)) (hg : g < w.heap.size) (S : Nat) (hSw : S ≤ w.heap.size) (hA0 : ys ≠ [] → ∀ a, A0 = some a → a.block < S)
    (HC0 : ∀ W r, IsWs W r S ys → w.heap.size ≤ r → W.heap[g]? = w.heap[g]? → w.heap.size ≤ W.heap.size → Calls Try.prog 80 #[.pointer (some ⟨r, 0, none⟩), .pointer (some ⟨g, 0, none⟩)] W (ByR t cs xs rest r S g W)) :
    Calls Try.prog 76 #[.slice A0 n c0, .func (.func 80) #[] #[.pointer (some ⟨g, 0, none⟩)]] w fun e w' => e = .returned (.int .i64 3) ∧ w.grownBy w' (some g) := by
  have hmf : ∀ (fn : Fn) (first cap : Array Value) (w : World), (Instr.makeFunc fn first cap).run Try.prog w = .ok (.func fn first cap) w := fun _ _ _ _ => rfl
  have HC := Lib.hid HC0; clear HC0
  have hws : ∀ o o' : Obj, Rd ((w.alloc o).alloc o') A0 (vals .u8 ys) := fun o o' => (hr.alloc o).alloc o'
  have hlt : ∀ a, A0 = some a → ys ≠ [] → a.block < S := fun a ha hne => hA0 hne a ha
  have Hws := Lib.hid hws; have Hlt := Lib.hid hlt; have Hl := Lib.hid hl
  have Hg := Lib.hid (fun o o' : Obj => (blk_far2 w o o' g hg)); clear hws hlt hl hr hA0
  go_enter_defers Try.func76, Try.ntmps76
  go_wp2_with fail
  obtain ⟨W, hW⟩ : ∃ W, (w.alloc (.cells #[.int .i64 0] 33)).alloc (.cells #[.slice A0 n c0] 155) = W := ⟨_, rfl⟩
  have hsW : w.heap.size + 2 = W.heap.size := by rw [← hW]; simp
  have hIW : IsWs W (w.heap.size + 1) S ys := by
    rw [← hW]
    refine ⟨A0, c0, ?_, by rw [Hl.out]; exact hnc, Hws.out _ _, fun hne a ha => ?_⟩
    · rw [Hl.out]; exact blk_newk _ _ (by simp)
    · have := Hlt.out a ha hne; exact ⟨by omega, this⟩
  have hEW : W.heap[w.heap.size]? = some (.cells #[.int .i64 0] 33 (0, 0)) := by rw [← hW]; exact blk_past (blk_new w _) _
  have hgW : W.heap[g]? = w.heap[g]? := by rw [← hW]; exact Hg.out _ _
  have hGW : Ext w W := by rw [← hW]; exact ((Ext.refl w).alloc _).alloc _
  have C := Lib.hid (HC.out W (w.heap.size + 1) hIW (by omega) hgW (by omega))
  have HE := Lib.hid hEW; have HGW := Lib.hid hGW
  rw [hW]
  clear hW hIW hEW hgW hGW HC Hws Hg
  refine C.out.mono ?_
  rintro e w2 ⟨A, c, wm, rfl, hg1, hg2, hcs, ho, hS⟩
  obtain ⟨A2, c2, hw2, _, _, _⟩ := hS
  have h0 : w2.cell? ⟨w.heap.size + 1, 0, none⟩ = some (.slice A2 rest.length c2) := blk_cell hw2 0
  have hlen : ((rest.length : Int) == 0) = false := by
    rw [beq_eq_false_iff_ne]
    have := List.length_pos_iff.2 hrest
    omega
  have HE2 := Lib.hid (blk_grown (blk_grown HE.out hg1 (by omega)) hg2 (by omega))
  have HG2 := Lib.hid (grown_new2 HGW.out hg1 hg2 (by omega))
  clear hg1 hg2 hcs ho hw2 C HE HGW
  go_wp2_with fail
  refine (must_no _ _).mono ?_
  rintro e w' ⟨rfl, rfl⟩
  go_wp2_with fail
  refine leaves_cons (f := 102) (args := #[.pointer (some ⟨w.heap.size, 0, none⟩)]) (by simp) (by simp [go_sem]) ?_
  refine (rundo_wrong _ w.heap.size _ [] HE2.out).mono ?_
  rintro e u' w'' ⟨rfl, rfl, rfl⟩
  exact ⟨_, res_errno rfl (blk_set (blk_past HE2.out _) 0 _), rfl, grown_setNew (grown_alloc HG2.out _) (Nat.le_refl _) 0 _⟩
set_option maxHeartbeats 1000000 in
set_option maxRecDepth 100000 in
theorem read_wrongP (w : World) (A0 : Option Addr) (n c0 g : Nat) (ys : List Nat) (hl : ys.length = n) (hn : n ≤ 4096) (hnc : n ≤ c0) (hr : Rd w A0 (vals .u8 ys)) (hg : g < w.heap.size) (S : Nat) (hSw : S ≤ w.heap.size) (hA0 : ys ≠ [] → ∀ a, A0 = some a → a.block < S)
    (HC0 : ∀ W r, IsWs W r S ys → w.heap.size ≤ r → W.heap[g]? = w.heap[g]? → w.heap.size ≤ W.heap.size → Calls Try.prog 80 #[.pointer (some ⟨r, 0, none⟩), .pointer (some ⟨g, 0, none⟩)] W (WrongR W r)) :
    Calls Try.prog 76 #[.slice A0 n c0, .func (.func 80) #[] #[.pointer (some ⟨g, 0, none⟩)]] w fun e w' => e = .returned (.int .i64 3) ∧ w.grownBy w' (some g) := by
  have hmf : ∀ (fn : Fn) (first cap : Array Value) (w : World), (Instr.makeFunc fn first cap).run Try.prog w = .ok (.func fn first cap) w := fun _ _ _ _ => rfl
  have HC := Lib.hid HC0; clear HC0
  have hws : ∀ o o' : Obj, Rd ((w.alloc o).alloc o') A0 (vals .u8 ys) := fun o o' => (hr.alloc o).alloc o'
  have hlt : ∀ a, A0 = some a → ys ≠ [] → a.block < S := fun a ha hne => hA0 hne a ha
  have Hws := Lib.hid hws; have Hlt := Lib.hid hlt; have Hl := Lib.hid hl
  have Hg := Lib.hid (fun o o' : Obj => (blk_far2 w o o' g hg)); clear hws hlt hl hr hA0
  go_enter_defers Try.func76, Try.ntmps76
  go_wp2_with fail
  obtain ⟨W, hW⟩ : ∃ W, (w.alloc (.cells #[.int .i64 0] 33)).alloc (.cells #[.slice A0 n c0] 155) = W := ⟨_, rfl⟩
  have hsW : w.heap.size + 2 = W.heap.size := by rw [← hW]; simp
  have hIW : IsWs W (w.heap.size + 1) S ys := by
    rw [← hW]
    refine ⟨A0, c0, ?_, by rw [Hl.out]; exact hnc, Hws.out _ _, fun hne a ha => ?_⟩
    · rw [Hl.out]; exact blk_newk _ _ (by simp)
    · have := Hlt.out a ha hne; exact ⟨by omega, this⟩
  have hEW : W.heap[w.heap.size]? = some (.cells #[.int .i64 0] 33 (0, 0)) := by rw [← hW]; exact blk_past (blk_new w _) _
  have hgW : W.heap[g]? = w.heap[g]? := by rw [← hW]; exact Hg.out _ _
  have hGW : Ext w W := by rw [← hW]; exact ((Ext.refl w).alloc _).alloc _
  have C := Lib.hid (HC.out W (w.heap.size + 1) hIW (by omega) hgW (by omega))
  have HE := Lib.hid hEW; have HGW := Lib.hid hGW
  rw [hW]
  clear hW hIW hEW hgW hGW HC Hws Hg
  refine C.out.mono ?_
  rintro e w2 ⟨rfl, hg1⟩
  have HE2 := Lib.hid (blk_grown HE.out hg1 (by omega))
  have HG2 := Lib.hid (grown_new (grown_none HGW.out (some g)) hg1 (by omega))
  clear hg1 C HE HGW
  go_wp2_with fail
  refine leaves_cons (f := 102) (args := #[.pointer (some ⟨w.heap.size, 0, none⟩)]) (by simp) (by simp [go_sem]) ?_
  refine (rundo_wrong _ w.heap.size _ [] HE2.out).mono ?_
  rintro e u' w'' ⟨rfl, rfl, rfl⟩
  exact ⟨_, res_errno rfl (blk_set (blk_past HE2.out _) 0 _), rfl, grown_setNew (grown_alloc HG2.out _) (Nat.le_refl _) 0 _⟩
end

section
open Go.RowKit

theorem wnum_word (w : World) (r S v : Nat) (rest : List Nat) (hv : v ≤ 4611686018427387903) (hb : ∀ x ∈ rest, x < 256) (h : IsWs w r S (wordB v 8 ++ rest)) :
    Calls Try.prog 83 #[.pointer (some ⟨r, 0, none⟩)] w fun e w' => e = .returned (.int .i64 (v : Int)) ∧ IsWs w' r S rest ∧ w.grownBy w' (some r) := by
  have hw8 : (wordB v 8 ++ rest).take 8 = wordB v 8 := List.take_left' (wordB_len v 8)
  have hd8 : (wordB v 8 ++ rest).drop 8 = rest := List.drop_left' (wordB_len v 8)
  have hn8 : numB (wordB v 8) = v := by rw [numB_wordB]; exact Nat.mod_eq_of_lt (Nat.lt_of_le_of_lt hv (by decide))
  refine (wnumber_any w r S _ (fun x hx => ?_) h).mono ?_
  · rcases List.mem_append.1 hx with hx | hx
    · exact wordB_lt _ _ x hx
    · exact hb x hx
  · rintro e w' ⟨hg, _, hh⟩
    rw [hw8, hd8, hn8] at hh
    rcases hh with ⟨_, _, he, hS⟩ | ⟨hno, _⟩
    · exact ⟨he, hS, hg⟩
    · exact absurd ⟨by rw [List.length_append, wordB_len]; omega, hv⟩ hno
theorem drew_cell' {w : World} {p : Addr} {v : Value} (h : w.cell? p = some v) : w.drew.cell? p = some v := h
theorem grown6 (w : World) (g : Nat) (a b c d x y : Value) : w.grownBy ((((((w.setCell ⟨g, 0, none⟩ a).setCell ⟨g, 1, none⟩ b).setCell ⟨g, 2, none⟩ c).setCell ⟨g, 3, none⟩ d).setCell ⟨g, 4, none⟩ x).setCell ⟨g, 5, none⟩ y) (some g) :=
  grown_setCell (grown_setCell (grown_setCell (grown_setCell (grown_setCell (grown_set w g 0 a) 1 b) 2 c) 3 d) 4 x) 5 y
theorem cell6 {w : World} {p : Addr} {v : Value} {g : Nat} {a b c d x y : Value} (h : w.cell? p = some v) (hne : p.block ≠ g) : ((((((w.setCell ⟨g, 0, none⟩ a).setCell ⟨g, 1, none⟩ b).setCell ⟨g, 2, none⟩ c).setCell ⟨g, 3, none⟩ d).setCell ⟨g, 4, none⟩ x).setCell ⟨g, 5, none⟩ y).cell? p = some v := by
  have h1 := (grown6 w g a b c d x y).block p.block (World.block_lt_of_cell? w p h) (fun e => hne (by injection e))
  exact (World.cell?_of_block h1).trans h
theorem row6 {w : World} {g : Nat} {a0 b0 c0 d0 x0 y0 : Value} {t : TypeId} (h : w.heap[g]? = some (.cells #[a0, b0, c0, d0, x0, y0] t (0, 0))) (a b c d x y : Value) : ((((((w.setCell ⟨g, 0, none⟩ a).setCell ⟨g, 1, none⟩ b).setCell ⟨g, 2, none⟩ c).setCell ⟨g, 3, none⟩ d).setCell ⟨g, 4, none⟩ x).setCell ⟨g, 5, none⟩ y).heap[g]? = some (.cells #[a, b, c, d, x, y] t (0, 0)) :=
  blk_set (blk_set (blk_set (blk_set (blk_set (blk_set h 0 a) 1 b) 2 c) 3 d) 4 x) 5 y
abbrev repZ : Array Value := #[.int .i64 0, .bool false, .int .i64 0, .int .i64 0, .int .i64 0, .int .i64 0]
set_option maxHeartbeats 4000000 in
set_option maxRecDepth 100000 in
theorem byRep (w : World) (r S g e l t s n : Nat) (gb : Bool) (_hS : S ≤ w.heap.size) (he : e ≤ 16) (hl : l ≤ 4611686018427387903) (ht : t ≤ 4611686018427387903) (hs : s ≤ 4611686018427387903) (hn : n ≤ 4611686018427387903)
    (rest : List Nat) (hrb : ∀ x ∈ rest, x < 256) (h : IsWs w r S (repB e gb [l, t, s, n] ++ rest)) (hg : S ≤ g) (_hgw : g < w.heap.size) (hgr : g ≠ r) (hc : w.heap[g]? = some (.cells repZ 74 (0, 0))) :
    Calls Try.prog 80 #[.pointer (some ⟨r, 0, none⟩), .pointer (some ⟨g, 0, none⟩)] w (ByR 74 (fun _ _ => #[.int .i64 (e : Int), .bool gb, .int .i64 (l : Int), .int .i64 (t : Int), .int .i64 (s : Int), .int .i64 (n : Int)]) [] rest r S g w) := by
  have e1 : repB e gb [l, t, s, n] ++ rest = e :: oneIf gb :: (wordB l 8 ++ (wordB t 8 ++ (wordB s 8 ++ (wordB n 8 ++ rest)))) := by simp [repB, words]
  rw [e1] at h
  have H := Lib.hid h; have Hc := Lib.hid hc
  obtain ⟨x1, hx1, hx1'⟩ : ∃ x1 : Nat, x1 = oneIf gb ∧ x1 ≤ 1 := ⟨_, rfl, by unfold oneIf; split <;> omega⟩
  rw [← hx1] at H
  have hbq : ((x1 : Int) == 1) = gb := by rw [hx1]; cases gb <;> rfl
  have Hbq := Lib.hid hbq
  clear h hc e1 hx1 hbq
  have b4 : ∀ x ∈ rest, x < 256 := hrb
  have b3 : ∀ x ∈ wordB n 8 ++ rest, x < 256 := fun x hx => by
    rcases List.mem_append.1 hx with hx | hx
    · exact wordB_lt _ _ x hx
    · exact b4 x hx
  have b2 : ∀ x ∈ wordB s 8 ++ (wordB n 8 ++ rest), x < 256 := fun x hx => by
    rcases List.mem_append.1 hx with hx | hx
    · exact wordB_lt _ _ x hx
    · exact b3 x hx
  have b1 : ∀ x ∈ wordB t 8 ++ (wordB s 8 ++ (wordB n 8 ++ rest)), x < 256 := fun x hx => by
    rcases List.mem_append.1 hx with hx | hx
    · exact wordB_lt _ _ x hx
    · exact b2 x hx
  have B1 := Lib.hid b1; have B2 := Lib.hid b2; have B3 := Lib.hid b3; have B4 := Lib.hid b4; clear b1 b2 b3 b4
  go_enter Try.func80, Try.ntmps80
  go_wp2_with fail
  refine (wtake_ok _ r S 2 _ H.out (by simp)).mono ?_
  rintro e' w2 ⟨A2, c2, rfl, hc2, hR2, hS2, hg2, hz2, hbl2⟩
  obtain ⟨b2, off2, rfl, hcc⟩ := hR2 (by simp [vals])
  have h0 : w2.cell? ⟨b2, off2, none⟩ = some (.int .u8 (e : Int)) := hcc 0 _ rfl
  have h1 : w2.cell? ⟨b2, off2 + 1, none⟩ = some (.int .u8 (x1 : Int)) := hcc 1 _ rfl
  obtain ⟨hbr, hbS⟩ := hbl2 (by simp) _ rfl
  have hbr : b2 ≠ r := hbr
  have hbg : b2 ≠ g := by have : b2 < S := hbS; omega
  have HS2 := Lib.hid (show IsWs w2 r S (wordB l 8 ++ (wordB t 8 ++ (wordB s 8 ++ (wordB n 8 ++ rest)))) from hS2)
  have HG2 := Lib.hid hg2
  have K2 := Lib.hid (blk_grown Hc.out hg2 hgr)
  have hw : IntKind.i64.wrap (e : Int) = (e : Int) := by rw [IntKind.wrap_i64]; omega
  have hd1 : decide ((e : Int) ≤ 16) = true := by simp; omega
  have hd2 : decide ((x1 : Int) ≤ 1) = true := by simp; omega
  clear hcc hR2 hS2 hg2 hbl2 H Hc
  go_wp2_with fail
  refine (must_ok _ _).mono ?_
  rintro e' w' ⟨rfl, rfl⟩
  have hbq := Hbq.out
  have far : ∀ (a b : World) (o : Nat) (v : Value), a.grownBy b (some r) → a.cell? ⟨b2, o, none⟩ = some v → b.cell? ⟨b2, o, none⟩ = some v := fun a b o v hG hv => (hG.cell_far ⟨b2, o, none⟩ (World.block_lt_of_cell? a _ hv) (fun q => hbr (by injection q))).trans hv
  have Far := Lib.hid far; clear far
  have C1 := Lib.hid (wnum_word w2.drew r S l _ hl B1.out HS2.out)
  have h0d : w2.drew.cell? ⟨b2, off2, none⟩ = some (.int .u8 (e : Int)) := h0
  have h1d : w2.drew.cell? ⟨b2, off2 + 1, none⟩ = some (.int .u8 (x1 : Int)) := h1
  have H0d := Lib.hid h0d; have H1d := Lib.hid h1d; clear h0d h1d
  go_upto_region 2 with fail
  go_region_held3 (fun w' => w'.cell? ⟨b2, off2, none⟩ = some (.int .u8 (e : Int)) ∧ w'.cell? ⟨b2, off2 + 1, none⟩ = some (.int .u8 (x1 : Int)))
    (with_reducible (first | exact ⟨H0d.out, H1d.out⟩ | exact ⟨a0, a1⟩ | exact ⟨c0, c1⟩ | exact ⟨d0, d1⟩ | exact ⟨f0, f1⟩ | exact ⟨cell6 f0 hbg, cell6 f1 hbg⟩ | exact ⟨drew_cell' (cell6 f0 hbg), drew_cell' (cell6 f1 hbg)⟩))
    (first
      | (go_at_call 83; (with_reducible refine C1.out.mono ?_); rintro e1 v1 ⟨rfl, hs1, hg1⟩; have a0 := Far.out _ _ _ _ hg1 H0d.out; have a1 := Far.out _ _ _ _ hg1 H1d.out; have HS1 := Lib.hid hs1; have HG1 := Lib.hid hg1; clear hs1 hg1)
      | (go_at_call 83; (with_reducible refine (wnum_word v1 r S t _ ht B2.out HS1.out).mono ?_); rintro e2 v2 ⟨rfl, hs2, hg2⟩; have c0 := Far.out _ _ _ _ hg2 a0; have c1 := Far.out _ _ _ _ hg2 a1; have HSS2 := Lib.hid hs2; have HGG2 := Lib.hid hg2; clear hs2 hg2)
      | (go_at_call 83; (with_reducible refine (wnum_word v2 r S s _ hs B3.out HSS2.out).mono ?_); rintro e3 v3 ⟨rfl, hs3, hg3⟩; have d0 := Far.out _ _ _ _ hg3 c0; have d1 := Far.out _ _ _ _ hg3 c1; have HS3 := Lib.hid hs3; have HG3 := Lib.hid hg3; clear hs3 hg3)
      | (go_at_call 83; (with_reducible refine (wnum_word v3 r S n _ hn B4.out HS3.out).mono ?_); rintro e4 v4 ⟨rfl, hs4, hg4⟩; have f0 := Far.out _ _ _ _ hg4 d0; have f1 := Far.out _ _ _ _ hg4 d1; have HS4 := Lib.hid hs4; have HG4 := Lib.hid hg4; have hG := World.grown_trans (World.grown_trans (World.grown_trans (grown_undrew HG1.out) HGG2.out) HG3.out) hg4; have HGa := Lib.hid hG; have KC := Lib.hid (blk_grown K2.out hG hgr); have k0 := blk_cell KC.out 0; have k1 := blk_cell KC.out 1; have k2 := blk_cell KC.out 2; have k3 := blk_cell KC.out 3; have k4 := blk_cell KC.out 4; have k5 := blk_cell KC.out 5; have m0 := blk_frozen KC.out 0; have m1 := blk_frozen KC.out 1; have m2 := blk_frozen KC.out 2; have m3 := blk_frozen KC.out 3; have m4 := blk_frozen KC.out 4; have m5 := blk_frozen KC.out 5; clear hs4 hg4 hG))
  all_goals
    go_wp2_with fail
    go_end0
    have hz : v4.ownsRow w.heap.size 5 1 (.slice none 0 0) 0 (vals .u8 []) := World.ownsRow_nil _ _ _ _
    exact ⟨none, 0, v4, rfl, World.grown_trans HG2.out HGa.out, grown6 _ _ _ _ _ _ _ _, row6 KC.out _ _ _ _ _ _, World.ownsRow_nil _ _ _ _, HS4.out.grown (grown6 _ _ _ _ _ _ _ _) (fun k hk => by injection hk with hk; omega)⟩
end

section
open Go.RowKit

theorem ret_rep2 {fn : Func} (h : fn.results = #[.cell 2 74, .tmp 3]) {tmps : Array Value} {w : World} {g : Nat} {a b c d e f : Value} {t : TypeId} {fr : Nat × Nat} (hp : tmps.getD 2 undef = .pointer (some ⟨g, 0, none⟩)) (hg : w.heap[g]? = some (.cells #[a, b, c, d, e, f] t fr)) :
    (results fn tmps).run Try.prog w = .ok (.tuple #[.agg #[a, b, c, d, e, f], tmps.getD 3 undef]) w :=
  results_row_tmp h tmps w g t #[a, b, c, d, e, f] fr _ hp hg Try.underlying74 (by rfl) (by kernel_rfl)
theorem ext_row6 {w w2 : World} {g : Nat} (h : Ext w w2) (hg : w.heap.size ≤ g) (a b c d x y : Value) : Ext w ((((((w2.setCell ⟨g, 0, none⟩ a).setCell ⟨g, 1, none⟩ b).setCell ⟨g, 2, none⟩ c).setCell ⟨g, 3, none⟩ d).setCell ⟨g, 4, none⟩ x).setCell ⟨g, 5, none⟩ y) :=
  ext_grown h (grown6 w2 g a b c d x y) hg
set_option maxHeartbeats 1000000 in
theorem readRep_good (w : World) (A : Option Addr) (n c : Nat) (ys : List Nat) (e l t s m : Nat) (gb : Bool) (hr : Rd w A (vals .u8 ys))
    (hC : ∀ W g, Rd W A (vals .u8 ys) → w.heap.size ≤ W.heap.size → w.heap.size ≤ g → g < W.heap.size → W.heap[g]? = some (.cells repZ 74 (0, 0)) → Calls Try.prog 76 #[.slice A n c, .func (.func 80) #[] #[.pointer (some ⟨g, 0, none⟩)]] W fun x w' => x = .returned (.int .i64 0) ∧ W.grownBy w' (some g) ∧ w'.heap[g]? = some (.cells #[.int .i64 (e : Int), .bool gb, .int .i64 (l : Int), .int .i64 (t : Int), .int .i64 (s : Int), .int .i64 (m : Int)] 74 (0, 0))) :
    Calls Try.prog 44 #[.slice A n c] w (RetE (.tuple #[repV (e : Int) gb (l : Int) (t : Int) (s : Int) (m : Int), .int .i64 0]) w) := by
  have hmf : ∀ (fn : Fn) (first cap : Array Value) (w : World), (Instr.makeFunc fn first cap).run Try.prog w = .ok (.func fn first cap) w := fun _ _ _ _ => rfl
  have HC := Lib.hid hC; have Hr := Lib.hid hr; clear hC hr
  go_enter Try.func44, Try.ntmps44
  go_wp2_with fail
  refine (HC.out _ (w.heap.size + 1) ((Hr.out.alloc _).alloc _) (by simp; omega) (by omega) (by simp) (blk_newk _ _ (by simp))).mono ?_
  rintro x w2 ⟨rfl, hG, hc⟩
  have K := Lib.hid (blk_grown (blk_past (blk_new w (.cells repZ 74 (0, 0))) _) hG (by omega))
  have hx := ext_grown (((Ext.refl w).alloc _).alloc _) hG (by omega)
  have KC := Lib.hid hc
  clear hG hc
  have k0 := blk_cell K.out 0; have k1 := blk_cell K.out 1; have k2 := blk_cell K.out 2; have k3 := blk_cell K.out 3; have k4 := blk_cell K.out 4; have k5 := blk_cell K.out 5
  have f0 := blk_frozen K.out 0; have f1 := blk_frozen K.out 1; have f2 := blk_frozen K.out 2; have f3 := blk_frozen K.out 3; have f4 := blk_frozen K.out 4; have f5 := blk_frozen K.out 5
  have c0 := blk_cell KC.out 0; have c1 := blk_cell KC.out 1; have c2 := blk_cell KC.out 2; have c3 := blk_cell KC.out 3; have c4 := blk_cell KC.out 4; have c5 := blk_cell KC.out 5
  go_wp2_with fail
  refine bodyPost_ret (ret_rep2 rfl rfl (row6 K.out _ _ _ _ _ _)) rfl ?_
  exact ⟨rfl, ext_row6 hx (Nat.le_refl _) _ _ _ _ _ _⟩
theorem readRep_ok (w : World) (A : Option Addr) (n c e l t s m : Nat) (gb : Bool) (hn : n = 34) (hnc : n ≤ c) (he : e ≤ 16) (hl : l ≤ 4611686018427387903) (ht : t ≤ 4611686018427387903) (hs : s ≤ 4611686018427387903) (hm : m ≤ 4611686018427387903) (hr : Rd w A (vals .u8 (repB e gb [l, t, s, m]))) :
    Calls Try.prog 44 #[.slice A n c] w (RetE (.tuple #[repV (e : Int) gb (l : Int) (t : Int) (s : Int) (m : Int), .int .i64 0]) w) := by
  have hlen : (repB e gb [l, t, s, m]).length = n := by rw [hn]; exact repB_len e gb [l, t, s, m]
  refine readRep_good w A n c _ e l t s m gb hr fun W g hR hs1 hs2 hs3 hc => ?_
  refine (read_goodP W A n c g 74 (fun _ _ => #[.int .i64 (e : Int), .bool gb, .int .i64 (l : Int), .int .i64 (t : Int), .int .i64 (s : Int), .int .i64 (m : Int)]) _ [] hlen (by omega) hnc hR hs3 w.heap.size hs1 (rd_blk hr) fun W' r hI hrr hgW hss => byRep W' r w.heap.size g e l t s m gb (by omega) he hl ht hs hm [] (by simp) (by rw [List.append_nil]; exact hI) hs2 (by omega) (by omega) (hgW.trans hc)).mono ?_
  rintro x w' ⟨_, _, he, hg, hcs, _⟩
  exact ⟨he, hg, hcs⟩
end

section
open Go.RowKit

set_option maxHeartbeats 2000000 in
theorem callSame_any (w : World) (o o' p p' N N' : Int) (A B : Option Addr) (n c m d : Nat) (xs ys : List Nat) (hl : xs.length = n) (hl' : ys.length = m) (hn : n ≤ 9223372036854775807) (hb : ∀ x ∈ xs, x < 256) (hb' : ∀ x ∈ ys, x < 256) (hr : Rd w A (vals .u8 xs)) (hr' : Rd w B (vals .u8 ys)) :
    Calls Try.prog 39 #[callV o p A n c N, callV o' p' B m d N'] w (RetE (.bool (decide (o = o' ∧ p = p' ∧ xs = ys ∧ N = N'))) w) := by
  have C := Lib.hid (fun x y => same_any A B n c m d xs ys ((w.alloc x).alloc y) hl hl' hn hb hb' ((hr.alloc x).alloc y) ((hr'.alloc x).alloc y))
  clear hl hl' hb hb' hr hr'
  by_cases ho : o = o'
  · subst ho
    by_cases hp : p = p'
    · subst hp
      go_enter Try.func39, Try.ntmps39
      go_wp2_with fail
      refine (toE_q (C.out _ _)).mono ?_
      rintro e w1 ⟨rfl, hy1⟩
      have K0 := Lib.hid (blk_ext (blk_past (blk_new w (.cells #[.int .u8 o, .int .i64 p, .slice A n c, .int .i64 N] 63 (0, 0))) (.cells #[.int .u8 o, .int .i64 p, .slice B m d, .int .i64 N'] 63 (0, 0))) hy1)
      have K1 : Hid (w1.heap[w.heap.size + 1]? = some (.cells #[.int .u8 o, .int .i64 p, .slice B m d, .int .i64 N'] 63 (0, 0))) := blk_ext (blk_newk _ _ (by simp)) hy1
      have hx1 : Ext w w1 := (((Ext.refl w).alloc _).alloc _).trans hy1
      have k0 := blk_cell K0.out 3; have k1 := blk_cell K1.out 3
      clear hy1
      by_cases hs : same xs ys = true
      · rw [hs]
        have hxy : xs = ys := of_decide_eq_true hs
        have Hxy := Lib.hid hxy; clear hxy hs C
        go_wp2_with fail
        go_ret
        refine ⟨ret_bool ?_, hx1⟩
        by_cases hss : N = N' <;> simp [Hxy.out, hss]
      · have hs' : same xs ys = false := by simpa using hs
        rw [hs']
        have hxy : ¬ xs = ys := fun e => hs (decide_eq_true e)
        have Hxy := Lib.hid hxy; clear hxy hs hs' C
        go_wp2_with fail
        go_ret
        refine ⟨ret_bool ?_, hx1⟩
        simp [Hxy.out]
    · have hpb : (p == p') = false := by simp [hp]
      go_enter Try.func39, Try.ntmps39
      go_wp2_with fail
      go_ret
      exact ⟨ret_bool (by simp [hp]), ((Ext.refl w).alloc _).alloc _⟩
  · have hob : (o == o') = false := by simp [ho]
    go_enter Try.func39, Try.ntmps39
    go_wp2_with fail
    go_ret
    exact ⟨ret_bool (by simp [ho]), ((Ext.refl w).alloc _).alloc _⟩

theorem req_example (w : World) (A : Option Addr) (c : Nat) (hr : Rd w A (vals .u8 [97])) : Calls Try.prog 36 #[callV 1 1 A 1 c 2] w (RetBE [1, 1, 1, 97, 0, 0, 0, 0, 0, 0, 0, 2] 0 w) := by
  have h := req1_ok w 1 2 A 1 c [97] rfl hr (by omega) (by omega) (by omega)
  rw [show (1 :: 1 :: [97].length :: ([97] ++ wordB 2 8)) = [1, 1, 1, 97, 0, 0, 0, 0, 0, 0, 0, 2] by decide] at h
  exact h
theorem begins_example : Begins [1, 1, 1, 97, 0, 0, 0, 0, 0, 0, 0, 2] 1 1 [97] 2 [] := ⟨norm_1 (by omega) (by decide) (by omega) (by decide), by decide, fun h => by omega⟩
theorem reply_example (w : World) : Calls Try.prog 42 #[repV 0 true 2 0 0 100] w (RetBE (repB 0 true [2, 0, 0, 100]) 0 w) := by
  refine (reply_true w 0 2 0 0 100 (by omega)).mono ?_
  rintro e w' ⟨q, B, h, hB⟩
  rcases h with ⟨_, _, hno⟩ | ⟨rfl, _, _, ns, ⟨h1, h2, h3⟩, rfl⟩
  · exact absurd ⟨by omega, by omega, fun x hx => by simp at hx; unfold okN; omega⟩ hno
  · have : ns = [2, 0, 0, 100] := by
      match ns, h1, h2 with
      | [a, b, c, d], _, h2 =>
        simp at h2
        obtain ⟨a1, a2, a3, a4⟩ := h2
        congr <;> omega
    rw [this] at hB
    exact hB
/-- used, told alike for all calls -/
theorem used_cases (o : Nat) (p N : Int) (A : Option Addr) (n c : Nat) (xs : List Nat) (hl : xs.length = n) (p' : Nat) (xs' : List Nat) (N' : Nat) (h1 : 4 < o → p' = 0 ∧ xs' = [] ∧ N' = 0) (h2 : o ≤ 4 → p = (p' : Int) ∧ xs' = xs) (h3 : o = 2 ∨ o = 4 → N' = 0) (h4 : o ≤ 4 → ¬ (o = 2 ∨ o = 4) → N = (N' : Int)) :
    ∃ (A2 : Option Addr) (n2 c2 : Nat), xs'.length = n2 ∧ (∀ w, Rd w A (vals .u8 xs) → Rd w A2 (vals .u8 xs')) ∧ ∀ w, Calls Try.prog 40 #[callV (o : Int) p A n c N] w (RetE (callV (o : Int) (p' : Int) A2 n2 c2 (N' : Int)) w) := by
  by_cases ho : 4 < o
  · obtain ⟨rfl, rfl, rfl⟩ := h1 ho
    exact ⟨none, 0, 0, rfl, fun w _ => Rd.nil _ _, fun w => used_big w o p N A n c (by omega)⟩
  · obtain ⟨rfl, rfl⟩ := h2 (by omega)
    by_cases h24 : o = 2 ∨ o = 4
    · obtain rfl := h3 h24
      exact ⟨A, n, c, hl, fun w h => h, fun w => used_24 w o _ N A n c (by omega)⟩
    · obtain rfl := h4 (by omega) h24
      exact ⟨A, n, c, hl, fun w h => h, fun w => used_13 w o _ _ A n c (by omega) (by omega)⟩
end
end Go.Proofs.Ythkdjjfnmlemdaa
