/- Laid together: what 'TopGivenBack' needs, part 10 of 12. -/
import Derived.Lib.SlBytesConst
import Derived.Defers
import Derived.Deep.DeepCutAuto
import Derived.Test.YtloidkmphigbdaaGreatBTopGivenBack1
import Derived.Test.YtloidkmphigbdaaGreatBTopGivenBack2
import Derived.Test.YtloidkmphigbdaaGreatBTopGivenBack3
import Derived.Test.YtloidkmphigbdaaGreatBTopGivenBack6
import Derived.Test.YtloidkmphigbdaaGreatBTopGivenBack8
import Derived.Test.YtloidkmphigbdaaGreatBTopGivenBack9
namespace Go.Proofs.YtloidkmphigbdaaGreat
set_option linter.all false

section
open Go.RowKit

theorem PL.gb {w w' : World} {base : Nat} {A : Option Addr} {n c : Nat} {pss : List (List Nat)} {T : Nat → Prop} (h : PL w base A n c pss) (g : GB w w' T) (hT : ∀ b, T b → b < base) : PL w' base A n c pss := by
  obtain ⟨h1, vs, gs, h2, h3, h4, h5, h6⟩ := h
  refine ⟨h1, vs, gs, g.own h2 (fun b e t => by have := (h2.lt b e).1; have := hT b t; omega), h3, h4, fun b hb => Nat.lt_of_lt_of_le (h5 b hb) g.size, fun i ps hi => ?_⟩
  obtain ⟨q, ci, k1, k2, k3⟩ := h6 i ps hi
  exact ⟨q, ci, k1, k2, g.own k3 (fun b e t => by have := (k3.lt b e).1; have := hT b t; omega)⟩
def finF (ws : List Nat) : Nat := if (parse ws).2.2 = true then 12 else 0
theorem finF_int (ws : List Nat) : ((finF ws : Nat) : Int) = endF ws := by
  unfold finF endF
  split <;> rfl
/-- the reader went on -/
theorem ConnAt.fed {w : World} {base gc r : Nat} {L : List (Option Nat)} {RO : Nat → Prop} {s : CSt} (h : ConnAt w base L RO gc r s) :
    w.cell? ⟨gc, 0, none⟩ = some (.pointer (some ⟨r, 0, none⟩)) ∧ w.cell? ⟨gc, 2, none⟩ = some (.int .i64 (s.fin : Int)) ∧ w.cell? ⟨gc, 6, none⟩ = some (.bool s.closed) ∧ (∃ S, IsRdr w r s.ws s.cl S) ∧ gc ≠ r ∧ some r ∈ L ∧
      ∀ (w1 : World) (ws : List Nat) (cl : Bool) (S : Nat), w.grownBy w1 (some r) → S ≤ w1.heap.size → IsRdr w1 r ws cl (fun b => w.heap.size ≤ b ∧ b < S) → ConnAt w1 base L (fun b => RO b ∨ (w.heap.size ≤ b ∧ b < S)) gc r { s with ws := ws, cl := cl } := by
  obtain ⟨S0, lv, ov, lob, lk, tk, WA, TA, wn, wc, tn, tc, h1, h2, h3, h4, h5, h6, h7, h8, h9, h10, h11, h12, h13, h14, h15, h16, h17, h18, h19⟩ := h
  have h2' := h2
  rw [h1] at h2'
  obtain ⟨a1, a2, a3, a4⟩ := apart5 h2'
  have hrL : some r ∈ L := by rw [h1]; simp
  refine ⟨blk_cell h3 0, blk_cell h3 2, blk_cell h3 6, ⟨S0, h4⟩, a1, hrL, fun w1 ws cl S g1 hS hr => ?_⟩
  have g : GB w w1 (· = r) := (GB.refl w _).grown g1 (fun q e => by injection e with e; exact .inl e.symm)
  have hR : ∀ b, RO b → ¬ b = r := fun b hb e => (h18 b hb).1 (by rw [h1, e]; simp)
  have hgc := (h19 gc (by rw [h1]; simp))
  refine ⟨fun b => w.heap.size ≤ b ∧ b < S, lv, ov, lob, lk, tk, WA, TA, wn, wc, tn, tc, h1, h2, g.blk h3 a1, hr, fun b hb => .inr hb, h6, h7.gb g (fun b e => (a2 b e).2), h8.gbk h9 g hR, fun k hk a e => .inl (h9 k hk a e), ?_, h11, g.own h12 (fun b e => (a3 b e).2.1), h13, h14, g.own h15 (fun b e => (a4 b e).2.1), h16.gbk h17 g hR, fun k hk a e => .inl (h17 k hk a e), fun b hb => ?_, fun b hb => ⟨(h19 b hb).1, Nat.lt_of_lt_of_le (h19 b hb).2 g.size⟩⟩
  · have o1 := h10.gbk g hR
    revert o1
    cases s.out with
    | none => exact id
    | some c =>
      rintro ⟨o, k, e1, e2, e3, e4, e5, e6⟩
      exact ⟨o, k, e1, e2, e3, e4, .inl e5, fun a e => .inl (e6 a e)⟩
  · rcases hb with hb | hb
    · exact ⟨(h18 b hb).1, (h18 b hb).2.1, Nat.lt_of_lt_of_le (h18 b hb).2.2 g.size⟩
    · exact ⟨fun e => by have := (h19 b e).2; omega, by omega, by omega⟩
/-- the line, and what it may become -/
theorem ConnAt.lines {w : World} {base gc r : Nat} {L : List (Option Nat)} {RO : Nat → Prop} {s : CSt} (h : ConnAt w base L RO gc r s) :
    ∃ (lv : Value) (lob : Option Nat) (lk : List KRef), w.cell? ⟨gc, 1, none⟩ = some lv ∧ w.frozen? ⟨gc, 1, none⟩ = false ∧ (∀ b, lob = some b → some b ∈ L ∧ b ≠ gc) ∧ OffS w 4 lob lv s.line.length (callsV lk s.line) ∧ lk.length = s.line.length ∧
      ∀ (w3 : World) (v' : Value) (ob' : Option Nat) (K : Option Addr) (kc : Nat) (c : CCall), OffS w3 4 ob' v' (s.line.length + 1) (callsV lk s.line ++ callC (K, kc) c) → GB w w3 (fun b => lob = some b) → (∀ b, ob' = some b → lob = some b ∨ w.heap.size ≤ b) →
        c.key.length ≤ kc → Rd w3 K (vals .u8 c.key) → (∀ a, K = some a → some a.block ∉ L ∧ base ≤ a.block ∧ a.block < w.heap.size) →
        ConnAt (w3.setCell ⟨gc, 1, none⟩ v') base ([some gc, some r, ob'] ++ L.drop 3) (fun b => RO b ∨ ∃ a, K = some a ∧ a.block = b) gc r { s with line := s.line ++ [c] } ∧ GB w (w3.setCell ⟨gc, 1, none⟩ v') (fun b => some b ∈ L) ∧ ∀ b, some b ∈ [some gc, some r, ob'] ++ L.drop 3 → some b ∈ L ∨ w.heap.size ≤ b := by
  obtain ⟨S, lv, ov, lob, lk, tk, WA, TA, wn, wc, tn, tc, h1, h2, h3, h4, h5, h6, h7, h8, h9, h10, h11, h12, h13, h14, h15, h16, h17, h18, h19⟩ := h
  rw [h1] at h2
  obtain ⟨a1, a2, a3, a4⟩ := apart5 h2
  have hgcl := (h19 gc (by rw [h1]; simp))
  have hwL : ∀ b, lob = some b → some b ∈ L := fun b e => by rw [h1, ← e]; simp
  refine ⟨lv, lob, lk, blk_cell h3 1, blk_frozen h3 1, fun b e => ⟨hwL b e, (a2 b e).1⟩, h7, h6, fun w3 v' ob' K kc c ho g hb hkc hkr hK => ?_⟩
  have g2 : GB w (w3.setCell ⟨gc, 1, none⟩ v') (fun b => b = gc ∨ lob = some b) := (g.more (fun b _ e => .inr e)).trans ((GB.refl w3 (· = gc)).set gc 1 _ (.inl rfl)) (fun b e => .inl (.inl e))
  have gs : GB w3 (w3.setCell ⟨gc, 1, none⟩ v') (· = gc) := (GB.refl w3 (· = gc)).set gc 1 _ (.inl rfl)
  have hR : ∀ b, RO b → ¬ (b = gc ∨ lob = some b) := fun b hb e => (h18 b hb).1 (e.elim (fun e => by rw [h1, e]; simp) (hwL b))
  have hsz := g.size
  have hlt : ∀ b, some b ∈ L → b < w.heap.size := fun b e => (h19 b e).2
  have hnew : ∀ q, ob' = some q → q ≠ gc ∧ q ≠ r := fun q e => (hb q e).elim (fun e => a2 q e) (fun e => ⟨fun e2 => by omega, fun e2 => by have := (h19 r (by rw [h1]; simp)).2; omega⟩)
  have hnot : ∀ q, ob' = some q → (Value.slice WA wn wc).ownBlock ≠ some q ∧ (Value.slice TA tn tc).ownBlock ≠ some q := fun q e => (hb q e).elim (fun e => ⟨fun e2 => (a3 q e2).2.2 e, fun e2 => (a4 q e2).2.2.1 e⟩) (fun e => ⟨fun e2 => by have := (h19 q (by rw [h1, ← e2]; simp)).2; omega, fun e2 => by have := (h19 q (by rw [h1, ← e2]; simp)).2; omega⟩)
  have hL' : [some gc, some r, ob'] ++ L.drop 3 = [some gc, some r, ob', (Value.slice WA wn wc).ownBlock, (Value.slice TA tn tc).ownBlock] := by rw [h1]; rfl
  have hmem : ∀ b, some b ∈ [some gc, some r, ob'] ++ L.drop 3 → some b ∈ L ∨ w.heap.size ≤ b := fun b hb' => by
    rw [hL'] at hb'
    rcases List.mem_cons.1 hb' with e | hb'
    · exact .inl (by rw [e, h1]; simp)
    · rcases List.mem_cons.1 hb' with e | hb'
      · exact .inl (by rw [e, h1]; simp)
      · rcases List.mem_cons.1 hb' with e | hb'
        · exact (hb b e.symm).imp (hwL b) id
        · exact .inl (by rw [h1]; exact List.mem_cons_of_mem _ (List.mem_cons_of_mem _ (List.mem_cons_of_mem _ hb')))
  have hKg : ∀ a, K = some a → ¬ a.block = gc := fun a e e2 => (hK a e).1 (by rw [e2, h1]; simp)
  have hKb : ∀ a, K = some a → ¬ (some a.block ∈ [some gc, some r, ob'] ++ L.drop 3) := fun a e e2 => (hmem _ e2).elim (hK a e).1 (fun e3 => by have := (hK a e).2.2; omega)
  refine ⟨?_, g2.more (fun b _ e => e.elim (fun e => by rw [h1, e]; simp) (hwL b)), hmem⟩
  refine ⟨S, v', ov, ob', lk ++ [(K, kc)], tk, WA, TA, wn, wc, tn, tc, hL', ?_, blk_set (g.blk h3 (fun e => (a2 gc e).1 rfl)) 1 _, IsRdr.gb h4 g2 (fun e => e.elim (fun e => a1 e.symm) (fun e => (a2 r e).2 rfl)) (fun b hb => hR b (h5 b hb)), fun b hb => .inl (h5 b hb), by simp [h6], ?_, ?_, ?_, ?_, h11, g2.own h12 (fun b e e2 => e2.elim (fun e2 => (a3 b e).1 e2) (fun e2 => (a3 b e).2.2 e2)), h13, h14, g2.own h15 (fun b e e2 => e2.elim (fun e2 => (a4 b e).1 e2) (fun e2 => (a4 b e).2.2.1 e2)), h16.gbk h17 g2 hR, fun k hk a e => .inl (h17 k hk a e), fun b hbR => ?_, fun b hbL => ?_⟩
  · rw [hL']
    exact apart5_mk a1 hnew (fun q e => ⟨(a3 q e).1, (a3 q e).2.1, fun e2 => (hnot q e2).1 e⟩) (fun q e => ⟨(a4 q e).1, (a4 q e).2.1, (fun e2 => (hnot q e2).2 e), (a4 q e).2.2.2⟩)
  · rw [List.length_append]
    have := ho.gb gs (fun b e => (hnew b e).1)
    unfold callsV at this ⊢
    rw [zipV_snoc callC h6 (K, kc) c]
    exact this
  · refine (h8.gbk h9 g2 hR).snoc h6 hkc (gs.rd hkr hKg)
  · intro k hk a e
    rcases List.mem_append.1 hk with hk | hk
    · exact .inl (h9 k hk a e)
    · rw [List.mem_singleton.1 hk] at e
      exact .inr ⟨a, e, rfl⟩
  · have o1 := h10.gbk g2 hR
    revert o1
    cases s.out with
    | none => exact id
    | some c =>
      rintro ⟨o, k, e1, e2, e3, e4, e5, e6⟩
      exact ⟨o, k, e1, e2, e3, e4, .inl e5, fun a e => .inl (e6 a e)⟩
  · rcases hbR with hbR | ⟨a, e1, e2⟩
    · refine ⟨fun e => (hmem b e).elim (h18 b hbR).1 (fun e => by have := (h18 b hbR).2.2; omega), (h18 b hbR).2.1, Nat.lt_of_lt_of_le (h18 b hbR).2.2 g2.size⟩
    · subst e2
      exact ⟨hKb a e1, (hK a e1).2.1, Nat.lt_of_lt_of_le (hK a e1).2.2 g2.size⟩
  · rcases List.mem_cons.1 (show some b ∈ some gc :: some r :: ob' :: L.drop 3 from hbL) with e | hbL'
    · injection e with e
      subst e
      exact ⟨hgcl.1, Nat.lt_of_lt_of_le hgcl.2 g2.size⟩
    · rcases hmem b hbL with e | e
      · exact ⟨(h19 b e).1, Nat.lt_of_lt_of_le (h19 b e).2 g2.size⟩
      · refine ⟨by omega, ?_⟩
        rw [World.size_setCell]
        rw [hL'] at hbL
        rcases List.mem_cons.1 hbL' with e1 | hbL'
        · injection e1 with e1
          subst e1
          have := hlt b (by rw [h1]; simp)
          omega
        · rcases List.mem_cons.1 hbL' with e1 | hbL'
          · exact ho.lt b e1.symm
          · have : some b ∈ L := List.mem_of_mem_drop hbL'
            have := hlt b this
            omega
/-- what stands behind the line -/
theorem ConnAt.setFin {w : World} {base gc r : Nat} {L : List (Option Nat)} {RO : Nat → Prop} {s : CSt} (h : ConnAt w base L RO gc r s) (e : Nat) :
    ConnAt (w.setCell ⟨gc, 2, none⟩ (.int .i64 (e : Int))) base L RO gc r { s with fin := e } ∧ GB w (w.setCell ⟨gc, 2, none⟩ (.int .i64 (e : Int))) (fun b => some b ∈ L) := by
  obtain ⟨S, lv, ov, lob, lk, tk, WA, TA, wn, wc, tn, tc, h1, h2, h3, h4, h5, h6, h7, h8, h9, h10, h11, h12, h13, h14, h15, h16, h17, h18, h19⟩ := h
  have h2' := h2
  rw [h1] at h2'
  obtain ⟨a1, a2, a3, a4⟩ := apart5 h2'
  have g : GB w (w.setCell ⟨gc, 2, none⟩ (.int .i64 (e : Int))) (· = gc) := (GB.refl w (· = gc)).set gc 2 _ (.inl rfl)
  have hR : ∀ b, RO b → ¬ b = gc := fun b hb e => (h18 b hb).1 (by rw [h1, e]; simp)
  exact ⟨⟨S, lv, ov, lob, lk, tk, WA, TA, wn, wc, tn, tc, h1, h2, blk_set h3 2 _, IsRdr.gb h4 g (fun e => a1 e.symm) (fun b hb => hR b (h5 b hb)), h5, h6, h7.gb g (fun b e => (a2 b e).1), h8.gbk h9 g hR, h9, h10.gbk g hR, h11, g.own h12 (fun b e => (a3 b e).1), h13, h14, g.own h15 (fun b e => (a4 b e).1), h16.gbk h17 g hR, h17, fun b hb => ⟨(h18 b hb).1, (h18 b hb).2.1, by simpa using (h18 b hb).2.2⟩, fun b hb => ⟨(h19 b hb).1, by simpa using (h19 b hb).2⟩⟩, g.more (fun b _ e => by rw [e, h1]; simp)⟩
theorem readL_snoc (y : List Nat) : ∀ (l : List CCall) (xs : List (List Nat)), (readL l xs).2 = false → readL l (xs ++ [y]) = match decC y with | some c => ((readL l xs).1 ++ [c], false) | none => ((readL l xs).1, true)
  | l, [], _ => by
    rw [List.nil_append, readL]
    cases hd : decC y <;> simp [readL, hd]
  | l, x :: xs, h => by
    rw [List.cons_append]
    unfold readL at h ⊢
    cases hx : decC x with
    | none => rw [hx] at h; cases h
    | some c =>
      rw [hx] at h
      dsimp only at h ⊢
      exact readL_snoc y (l ++ [c]) xs h
theorem readL_stop (ys : List (List Nat)) : ∀ (l : List CCall) (xs : List (List Nat)), (readL l xs).2 = true → readL l (xs ++ ys) = readL l xs
  | l, [], h => by cases h
  | l, x :: xs, h => by
    rw [List.cons_append]
    unfold readL at h ⊢
    cases hx : decC x with
    | none => rfl
    | some c =>
      rw [hx] at h
      dsimp only at h ⊢
      exact readL_stop ys (l ++ [c]) xs h
theorem readL_len : ∀ (l : List CCall) (xs : List (List Nat)), (readL l xs).1.length ≤ l.length + xs.length
  | l, [] => by unfold readL; simp
  | l, x :: xs => by
    unfold readL
    cases hx : decC x with
    | none => simp
    | some c =>
      have := readL_len (l ++ [c]) xs
      simp only [List.length_append, List.length_cons, List.length_nil] at this ⊢
      omega
noncomputable def fedS (s : CSt) (al : List Nat) : CSt := { s with ws := leftF al, cl := (parse al).2.2, line := (readL s.line (parse al).1).1, fin := if (readL s.line (parse al).1).2 = true then 3 else finF al }

theorem ConnGo.trans {w w1 w2 : World} {base gc r : Nat} {L : List (Option Nat)} {RO : Nat → Prop} {s s2 : CSt} (h : ConnGo w base L RO gc r s w1) (k : ∀ L1 RO1, ConnAt w1 base L1 RO1 gc r s → ConnGo w1 base L1 RO1 gc r s2 w2) : ConnGo w base L RO gc r s2 w2 := by
  obtain ⟨L1, RO1, h1, h2, h3, h4⟩ := h
  exact conn_go_then h2 h3 h4 (k L1 RO1 h1)
theorem frz_gb {w w' : World} {S : Nat → Prop} {gc i : Nat} {v : Value} (g : GB w w' S) (h : w.cell? ⟨gc, i, none⟩ = some v) (hf : w.frozen? ⟨gc, i, none⟩ = false) (hn : ¬ S gc) : w'.frozen? ⟨gc, i, none⟩ = false := by
  have hb := g.block gc (World.block_lt_of_cell? w _ h) hn
  unfold World.frozen? at hf ⊢
  simp only [hb]
  exact hf
def FeedC (w : World) (base : Nat) (L : List (Option Nat)) (RO : Nat → Prop) (gc r : Nat) (s : CSt) (al : List Nat) (e : Ending) (w' : World) : Prop :=
  e = .returned (.int .i64 0) ∧ ConnGo w base L RO gc r (fedS s al) w'
set_option maxHeartbeats 8000000 in
set_option maxRecDepth 100000 in
theorem cfeed_open (w : World) (base gc r : Nat) (L : List (Option Nat)) (RO : Nat → Prop) (s : CSt) (h : ConnAt w base L RO gc r s) (hi : CInv s) (hc : s.closed = false) (hf : s.fin = 0) (hcl : s.cl = false) (A : Option Addr) (n c : Nat) (xs : List Nat) (hl : xs.length = n) (hb : ∀ x ∈ xs, x < 256) (hr : Rd w A (vals .u8 xs))
    (hN : s.ws.length + n ≤ 5000000000000) (hP : s.line.length + (parse (s.ws ++ xs)).1.length ≤ 1000000) :
    Calls Tryz.prog 59 #[.pointer (some ⟨gc, 0, none⟩), .slice A n c] w (FeedC w base L RO gc r s (s.ws ++ xs)) := by
  obtain ⟨c0, c2, c6, ⟨S, hrd⟩, hgr, hrL, fed⟩ := h.fed
  have B := h.bounds
  rw [hc] at c6
  rw [hf] at c2
  rw [hcl] at hrd
  have FD := Lib.hid (feed_open w r S s.ws A n c xs hrd hi.1 hl hb hr hN)
  have hba : ∀ x ∈ s.ws ++ xs, x < 256 := fun x hx => (List.mem_append.1 hx).elim (hi.1 x) (hb x)
  obtain ⟨al, Hal⟩ : ∃ al, Hid (s.ws ++ xs = al) := ⟨_, rfl⟩
  rw [Hal.out] at FD hP hba ⊢
  obtain ⟨-, -, hps⟩ := parse_small (al.length + 1) al (by omega)
  have HPS := Lib.hid (show ∀ ps ∈ (parse al).1, ps.length ≤ 4096 ∧ ∀ x ∈ ps, x < 256 from fun ps h => ⟨(hps ps h).1, fun x hx => hba x ((hps ps h).2 x hx)⟩)
  have FED := Lib.hid fed; have BB := Lib.hid B; have H := Lib.hid h
  clear h hrd hi hb hr hl fed B hps hba hc hf hcl
  go_enter Tryz.func59, Tryz.ntmps59
  go_wp2_with fail
  refine FD.out.mono ?_
  intro e w1 hF
  obtain ⟨S1, A1, n1, c1, rfl, hn1, hS1, hP1, hR1, hg1⟩ := feedR_any hF
  have hca := FED.out w1 _ _ S1 hg1 hS1.2 hR1
  have g1 : GB w w1 (fun b => some b ∈ L) := (GB.refl w _).grown hg1 (fun q e => by injection e with e; exact .inl (by rw [← e]; exact hrL))
  obtain ⟨en, Hen⟩ : ∃ en, Hid (endF al = ((en : Nat) : Int) ∧ finF al = en) := ⟨finF al, (finF_int al).symm, rfl⟩
  rw [Hen.out.1]
  have hlt : ∀ b, some b ∈ L → b < S1 := fun b e => by have := (BB.out.2.1 b e).2; omega
  have HCA := Lib.hid hca; have G1 := Lib.hid g1; have HP1 := Lib.hid hP1; have HLT := Lib.hid hlt; have HN1 := Lib.hid hn1
  have hsl : s.line.length + n1 ≤ 1000000 := by rw [← hn1]; exact hP
  have d2' := (hca.cells)
  clear hF hR1 hg1 hca g1 hP1 hlt c0 c2 c6 d2' hP hn1
  go_wp2_with fail
  go_loopw [37] (fun i wr => ∃ k : Nat, k ≤ n1 ∧ i = .int .i64 (k : Int) ∧ (readL s.line ((parse al).1.take k)).2 = false ∧ ConnGo w1 base L (fun b => RO b ∨ (w.heap.size ≤ b ∧ b < S1)) gc r { s with ws := leftF al, cl := (parse al).2.2, line := (readL s.line ((parse al).1.take k)).1 } wr) (fun i _ => n1 - (intOf i).toNat)
  case atStart => exact ⟨0, Nat.zero_le _, rfl, by rw [List.take_zero]; rfl, by rw [List.take_zero]; exact ConnGo.refl HCA.out (Ext.refl _)⟩
  case round =>
    obtain ⟨k, hk, rfl, hbad, hgo⟩ := hrel
    by_cases hlt : k < n1
    · obtain ⟨ys, hys⟩ : ∃ ys, (parse al).1[k]? = some ys := ⟨_, List.getElem?_eq_getElem (by rw [HN1.out]; exact hlt)⟩
      obtain ⟨L2, RO2, k1, k2, k3, k4⟩ := hgo
      have hpl := HP1.out.gb k2 HLT.out
      obtain ⟨b, off, Ai, ci, hA, d0, hci, hrd⟩ := hpl.rd.at_ hys
      obtain ⟨hy1, hy2⟩ := HPS.out ys (List.mem_of_getElem? hys)
      have HT := Lib.hid (take_succ_of hys)
      have hll := readL_len s.line ((parse al).1.take k)
      have hlk0 : (readL s.line ((parse al).1.take k)).1.length ≤ 1000000 := by rw [List.length_take] at hll; omega
      have HB := Lib.hid hbad
      subst hA
      have K1 := Lib.hid k1; have K2 := Lib.hid k2; have K3 := Lib.hid k3; have K4 := Lib.hid k4
      obtain ⟨m, Hm⟩ : ∃ m, Hid (ys.length = m) := ⟨_, rfl⟩
      rw [Hm.out] at d0 hci hy1
      have HYS := Lib.hid hys; have HRD := Lib.hid hrd; have HY2 := Lib.hid hy2
      clear hbad k1 k2 k3 k4 hpl hrd hys hy2 hll
      cases hd : decC ys with
      | none =>
        have RQ := Lib.hid (readReq_none wr Ai m ci ys Hm.out hy1 hci HY2.out HRD.out (decC_none hd))
        have HD := Lib.hid hd
        clear hd
        go_wp2_with fail
        refine RQ.out.mono ?_
        rintro e w2 ⟨rfl, x2⟩
        obtain ⟨-, -, -, -, d2, -, -, fz, -, hgl⟩ := (K1.out.ext x2).cells
        have f2 := fz 2
        have X2 := Lib.hid x2
        clear fz x2 d0
        go_wp2_with fail
        go_ret
        refine ⟨rfl, ?_⟩
        have hs0 := (K1.out.ext X2.out).setFin 3
        have xB := (Ext.refl (w2.setCell ⟨gc, 2, none⟩ (.int .i64 3))).alloc (.cells #[.int .u8 0, .int .i64 0, .slice none 0 0, .int .i64 0] 34)
        have hs := And.intro (hs0.1.ext xB) (hs0.2.ext xB)
        refine conn_go_then G1.out (fun b e => .inl e) (fun b e => e.elim .inl (fun e => .inr (.inr e.1))) (conn_go_then K2.out K3.out K4.out (s2 := fedS s al) ⟨L2, RO2, ?_, GB.back X2.out hs.2, fun b e => .inl e, fun b e => .inl e⟩)
        have e1 := readL_snoc ys s.line _ HB.out
        rw [← HT.out, HD.out] at e1
        dsimp only at e1
        have e2 := readL_stop ((parse al).1.drop (k + 1)) s.line ((parse al).1.take (k + 1)) (by rw [e1])
        rw [List.take_append_drop, e1] at e2
        unfold fedS
        rw [e2]
        exact hs.1
      | some c =>
        obtain ⟨hn, he⟩ := decC_some hd
        have RQ := Lib.hid (readReq_ok wr Ai m ci ys c.key c.op c.pol c.num Hm.out hy1 hci HY2.out HRD.out ⟨hn, by rw [List.append_nil]; exact he, fun _ => rfl⟩)
        have HD := Lib.hid hd
        clear hd hn he
        go_wp2_with fail
        refine RQ.out.mono ?_
        rintro e w2 ⟨Ak, kc, rfl, ho2, x2⟩
        obtain ⟨op, pol, key, num⟩ := c
        dsimp only at ho2 RQ ⊢
        obtain ⟨kl, Hkl⟩ : ∃ kl, Hid (key.length = kl) := ⟨_, rfl⟩
        have hko : w2.ownsRow wr.heap.size 5 1 (.slice Ak kl kc) kl (vals .u8 key) := by rw [← Hkl.out]; exact ho2
        rw [Hkl.out]
        obtain ⟨X, hX⟩ : ∃ X, w2.alloc (.cells #[.int .u8 (op : Int), .int .i64 (pol : Int), .slice Ak kl kc, .int .i64 (num : Int)] 34) = X := ⟨_, rfl⟩
        have xX : Ext w2 X := by rw [← hX]; exact (Ext.refl w2).alloc _
        have KX := Lib.hid (show X.heap[w2.heap.size]? = some (.cells #[.int .u8 (op : Int), .int .i64 (pol : Int), .slice Ak kl kc, .int .i64 (num : Int)] 34 (0, 0)) by rw [← hX]; exact blk_new w2 _)
        have xw := x2.trans xX
        obtain ⟨lv, lob, lk, c1, f1, hlob, hoff, hlk, step⟩ := (K1.out.ext xw).lines
        dsimp only at hoff hlk step
        obtain ⟨q, Hq⟩ : ∃ q, Hid ((readL s.line ((parse al).1.take k)).1.length = q) := ⟨_, rfl⟩
        have hlk_ : q ≤ 1000000 := by rw [← Hq.out]; exact hlk0
        rw [Hq.out] at hoff hlk step
        obtain ⟨ao, cap, rfl, -, -, -⟩ := hoff.shape
        have hsz := x2.size
        have nbo : ∀ b, lob = some b → b < wr.heap.size := fun b e => (K1.out.bounds.2.1 b (hlob b e).1).2
        have nbg : ¬ lob = some gc := fun e => (hlob gc e).2 rfl
        have nbx : ¬ lob = some w2.heap.size := fun e => by have := nbo _ e; omega
        have XW := Lib.hid xw; have OFF := Lib.hid hoff; have HLK := Lib.hid hlk; have STEP := Lib.hid step; have HKO := Lib.hid hko; have XX := Lib.hid xX; have HLOB := Lib.hid hlob; have X2 := Lib.hid x2; have NBO := Lib.hid nbo; have C1 := Lib.hid c1
        clear ho2 hko x2 xX xw hoff hlk step d0 hlob nbo
        go_upto_region 10 with fail
        (try rw [hX])
        clear hX
        have u0 : X.cell? ⟨w2.heap.size, 0, none⟩ = some (.int .u8 (op : Int)) := blk_cell KX.out 0
        have u1 : X.cell? ⟨w2.heap.size, 1, none⟩ = some (.int .i64 (pol : Int)) := blk_cell KX.out 1
        have u2 : X.cell? ⟨w2.heap.size, 2, none⟩ = some (.slice Ak kl kc) := blk_cell KX.out 2
        have u3 : X.cell? ⟨w2.heap.size, 3, none⟩ = some (.int .i64 (num : Int)) := blk_cell KX.out 3
        go_upto_region 13 with fail
        refine wp_region_k (fun u => u.cell? ⟨gc, 1, none⟩ = some (.slice ao q cap) ∧ u.cell? ⟨w2.heap.size, 0, none⟩ = some (.int .u8 (op : Int)) ∧ u.cell? ⟨w2.heap.size, 1, none⟩ = some (.int .i64 (pol : Int)) ∧ u.cell? ⟨w2.heap.size, 2, none⟩ = some (.slice Ak kl kc) ∧ u.cell? ⟨w2.heap.size, 3, none⟩ = some (.int .i64 (num : Int))) [10] (by kernel_rfl) ?_
        have hHeld := And.intro (drew_cell c1) (And.intro (drew_cell u0) (And.intro (drew_cell u1) (And.intro (drew_cell u2) (drew_cell u3))))
        have XD : Ext X X.drew := (Ext.refl X).drew
        clear u0 u1 u2 u3 c1
        generalize X.drew = U at XD hHeld ⊢
        refine wpAnyK_free (i := 0) (oi := _) (v := ?_) rfl (by kernel_rfl) (by kernel_rfl) (by kernel_rfl) (by kernel_rfl) (fun _ _ _ h => h) (Or.inl ⟨by rfl, ?_⟩) (HeldT.of hHeld) ?_
        rotate_left
        · intro w _; go_simp
          (try with_reducible rfl)
        (try simp only [Act.put])
        refine wpAnyK_free (i := 1) (oi := _) (v := ?_) rfl (by kernel_rfl) (by kernel_rfl) (by kernel_rfl) (by kernel_rfl) (fun _ _ _ h => h) (Or.inl ⟨by rfl, ?_⟩) (HeldT.of hHeld) ?_
        rotate_left
        · intro w _; go_simp
          (try with_reducible rfl)
        (try simp only [Act.put])
        refine wpAnyK_free (i := 2) (oi := _) (v := ?_) rfl (by kernel_rfl) (by kernel_rfl) (by kernel_rfl) (by kernel_rfl) (fun _ _ _ h => h) (Or.inl ⟨by rfl, ?_⟩) (HeldT.of hHeld) ?_
        rotate_left
        · intro w _; go_simp
          (try with_reducible rfl)
        (try simp only [Act.put])
        refine wpAnyK_free (i := 3) (oi := _) (v := ?_) rfl (by kernel_rfl) (by kernel_rfl) (by kernel_rfl) (by kernel_rfl) (fun _ _ _ h => h) (Or.inl ⟨by rfl, ?_⟩) (HeldT.of hHeld) ?_
        rotate_left
        · intro w _; go_simp
          (try with_reducible rfl)
        (try simp only [Act.put])
        refine wpAnyK_take 20 (i := 4) (oi := _) (v := ?_) rfl (by kernel_rfl) (by kernel_rfl) (by kernel_rfl) (by kernel_rfl) (by kernel_rfl) (fun _ _ _ h => h) (Or.inl ⟨by rfl, ?_⟩) (by assumption) ?_
        rotate_left
        · intro w hSw; (try dsimp only at hSw); go_simp
          (try with_reducible rfl)
        (try simp only [Act.put])
        refine wpAnyK_take 20 (i := 5) (oi := _) (v := ?_) rfl (by kernel_rfl) (by kernel_rfl) (by kernel_rfl) (by kernel_rfl) (by kernel_rfl) (fun _ _ _ h => h) (Or.inl ⟨by rfl, ?_⟩) (by assumption) ?_
        rotate_left
        · intro w hSw; (try dsimp only at hSw); go_simp
          (try with_reducible rfl)
        (try simp only [Act.put])
        refine wpAnyK_ready (rs := [6]) (by kernel_rfl) (by simp) (AllReadyK.cons (o := _) rfl (fun K' hK => ?_) AllReadyK.nil)
        have q1 := hHeld.1
        have u0 := hHeld.2.1
        have u1 := hHeld.2.2.1
        have u2 := hHeld.2.2.2.1
        have u3 := hHeld.2.2.2.2
        go_simp
        have yU : Ext U (U.alloc (.cells #[.int .u8 (op : Int), .int .i64 (pol : Int), .slice Ak kl kc, .int .i64 (num : Int)] 34)) := (Ext.refl U).alloc _
        have yX := XD.trans yU
        refine hK.out _ _ ⟨ext_cell yU q1, ext_cell yU u0, ext_cell yU u1, ext_cell yU u2, ext_cell yU u3⟩ ?_
        clear hK K'
        (try simp only [Act.put])
        have d1 := ext_cell yU q1; have e0 := ext_cell yU u0; have e1 := ext_cell yU u1; have e2 := ext_cell yU u2; have e3 := ext_cell yU u3
        have f1Y := frz_ext2 yX C1.out f1
        have nx := blk_new U (.cells #[.int .u8 (op : Int), .int .i64 (pol : Int), .slice Ak kl kc, .int .i64 (num : Int)] 34)
        have NX := Lib.hid (show ∀ j u, [Value.int .u8 (op : Int), .int .i64 (pol : Int), .slice Ak kl kc, .int .i64 (num : Int)][j]? = some u → (U.alloc (.cells #[.int .u8 (op : Int), .int .i64 (pol : Int), .slice Ak kl kc, .int .i64 (num : Int)] 34)).cell? ((⟨U.heap.size, 0, none⟩ : Addr).add j) = some u from fun j u hu => by
          rw [Addr.add_lit, Nat.zero_add]
          exact (blk_cell nx j).trans (by rw [← hu]; simp))
        clear nx q1 u0 u1 u2 u3
        refine wpAnyK_ready (rs := [7]) (by kernel_rfl) (by simp) (AllReadyK.cons (o := _) rfl (fun K' hK => ?_) AllReadyK.nil)
        refine step_app_call (U.alloc (.cells #[.int .u8 (op : Int), .int .i64 (pol : Int), .slice Ak kl kc, .int .i64 (num : Int)] 34)) rfl (.tmp 55) (.tmp 57) rfl (by rfl) (OFF.out.ext yX) hlk_ (by rfl) rfl NX.out (fun u hu => by simp at hu; rcases hu with rfl | rfl | rfl | rfl <;> rfl) ?_
        intro v' w6 ob' o6 g6 b6
        obtain ⟨va, vc, rfl, -, -, -⟩ := o6.shape
        have q1 := g6.cell d1 nbg; have u0 := g6.cell e0 nbx; have u1 := g6.cell e1 nbx; have u2 := g6.cell e2 nbx; have u3 := g6.cell e3 nbx
        have F1 := frz_gb g6 d1 f1Y nbg
        have O6 := Lib.hid o6; have G6 := Lib.hid g6; have B6 := Lib.hid b6
        clear o6 g6 b6
        refine hK.out _ _ ⟨q1, u0, u1, u2, u3⟩ ?_
        clear hK K'
        (try simp only [Act.put])
        refine wpAnyK_ready (rs := [8]) (by kernel_rfl) (by simp) (AllReadyK.cons (o := _) rfl (fun K' hK => ?_) AllReadyK.nil)
        go_simp
        refine hK.out _ _ ⟨q1, u0, u1, u2, u3⟩ ?_
        clear hK K'
        (try simp only [Act.put])
        refine wpAnyK_ready (rs := [9]) (by kernel_rfl) (by simp) (AllReadyK.cons (o := _) rfl (fun K' hK => ?_) AllReadyK.nil)
        go_simp
        refine hK.out _ _ ⟨q1, u0, u1, u2, u3⟩ ?_
        clear hK K'
        (try simp only [Act.put])
        refine wpAnyK_ready (rs := [10]) (by kernel_rfl) (by simp) (AllReadyK.last (o := _) (by kernel_rfl) rfl (fun K' hK => ?_) AllReadyK.nil)
        go_simp
        refine hK.out _ _ ?_
        clear hK K'
        (try simp only [Act.put])
        refine wpAnyK_done (by kernel_rfl) ?_ _
        have e1r := readL_snoc ys s.line _ HB.out
        rw [← HT.out, HD.out] at e1r
        dsimp only at e1r
        have RD := Lib.hid e1r
        clear e1r
        go_wp2_with fail
        go_roundw
        case rel =>
          have gX6 : GB X w6 (fun b => lob = some b) := ((GB.refl X _).ext yX).trans G6.out (fun b e => .inl e)
          have hkey : Rd w6 Ak (vals .u8 key) := gX6.rd ((Rd.of_own HKO.out).ext XX.out) (fun a e e2 => by have := (HKO.out.lt a.block (by rw [e]; rfl)).1; have := NBO.out _ e2; omega)
          obtain ⟨m1, m2, m3⟩ := STEP.out w6 (.slice va (q + 1) vc) ob' Ak kc ⟨op, pol, key, num⟩ (by show OffS _ _ _ _ _ (_ ++ [_, _, Value.slice _ key.length _, _]); rw [Hkl.out]; exact O6.out) gX6 (fun b e => by
            rcases B6.out with h9 | h9
            · exact .inl (h9 ▸ e)
            · rw [h9] at e
              injection e with e
              exact .inr (by rw [← e]; exact yX.size)) (by dsimp only; rw [Hkl.out]; exact own_cap HKO.out) hkey (fun a e => by
            have hl9 := HKO.out.lt a.block (by rw [e]; rfl)
            have hB := K1.out.bounds
            refine ⟨fun e2 => by have := (hB.2.1 _ e2).2; omega, ?_, Nat.lt_of_lt_of_le hl9.2 XX.out.size⟩
            have := hB.2.1 gc hB.1
            omega)
          refine ⟨k + 1, hlt, by go_num, by rw [RD.out], conn_go_then K2.out K3.out K4.out ⟨_, _, ?_, GB.back XW.out m2, fun b e => (m3 b e).imp id (fun e => Nat.le_trans XW.out.size e), fun b e => (show RO2 b ∨ ∃ a, Ak = some a ∧ a.block = b from e).imp id ?_⟩⟩
          · rw [RD.out]
            exact m1
          · rintro ⟨a, ea, eb⟩
            have := (HKO.out.lt a.block (by rw [ea]; rfl)).1
            exact .inr (by omega)
        case measure => simp [intOf]; omega
    · obtain rfl : k = n1 := by omega
      have HB := Lib.hid hbad; have HGO := Lib.hid hgo
      rw [List.take_of_length_le (by rw [HN1.out]; exact Nat.le_refl _)] at HB HGO
      clear hbad hgo
      obtain ⟨L2, RO2, k1, k2, k3, k4⟩ := HGO.out
      obtain ⟨-, -, -, -, d2, -, -, fz, -⟩ := k1.cells
      have f2 := fz 2
      clear k1 k2 k3 k4 fz
      go_wp2_with fail
      go_ret
      refine ⟨rfl, ?_⟩
      refine conn_go_then G1.out (fun b e => .inl e) (fun b e => e.elim .inl (fun e => .inr (.inr e.1))) (ConnGo.trans HGO.out fun L1 RO1 k1 => ?_)
      have SF := k1.setFin en
      refine ⟨L1, RO1, ?_, SF.2, fun b e => .inl e, fun b e => .inl e⟩
      unfold fedS
      rw [if_neg (by rw [HB.out]; exact Bool.false_ne_true), Hen.out.2]
      exact SF.1

theorem reqB_pos' (op p N : Nat) (xs : List Nat) : 1 ≤ (reqB op p xs N).length := by
  unfold reqB
  split
  · simp
  · split
    · simp
    · simp
theorem reqB_len' {op p N : Nat} {xs : List Nat} (h : xs.length ≤ 255) : (reqB op p xs N).length ≤ 1000 := by
  unfold reqB
  split
  · rw [List.length_cons, tokB_len]; omega
  · split
    · simp
    · simp only [List.length_cons, List.length_append]
      split
      · rw [wordB_len]; omega
      · simp; omega
/-- a request's frame, or nothing -/
def RetFr (F : Option (List Nat)) (w : World) (e : Ending) (w' : World) : Prop := match F with
  | none => e = .returned (.slice none 0 0) ∧ Ext w w'
  | some L => ∃ g c, e = .returned (.slice (some ⟨g, 0, none⟩) L.length c) ∧ w'.ownsRow w.heap.size 5 1 (.slice (some ⟨g, 0, none⟩) L.length c) L.length (vals .u8 L) ∧ Ext w w'
/-- what a call's frame is: c is the call as it is read -/
def FrOf (op : Nat) (p : Int) (xs : List Nat) (N : Int) (F : Option (List Nat)) : Prop :=
  (F = none ∧ ∀ P M : Nat, (op < 5 → p = (P : Int)) → (op = 1 ∨ op = 3 → N = (M : Int)) → ¬ RightC op P xs M) ∨
    ∃ P M : Nat, (op < 5 → p = (P : Int)) ∧ (op = 1 ∨ op = 3 → N = (M : Int)) ∧ RightC op P xs M ∧ F = some (len4 (reqB op P xs M).length ++ reqB op P xs M)
theorem words_lt (ns : List Nat) : ∀ x ∈ words ns, x < 256 := fun x hx => by
  obtain ⟨n, _, h⟩ := List.mem_flatMap.1 hx
  exact wordB_lt n 8 x h
theorem rep_lt {e : Int} {g : Bool} {N : List Int} {q : Int} {B : List Nat} (h : RepIs e g N q B) : ∀ x ∈ B, x < 256 := fun x hx => by
  rcases h with ⟨_, h, _⟩ | ⟨_, h1, h2, ns, _, h⟩
  · rw [h] at hx; cases hx
  · rw [h] at hx
    rcases List.mem_cons.1 hx with hx | hx
    · omega
    · rcases List.mem_cons.1 hx with hx | hx
      · rw [hx]; cases g <;> simp [oneIf]
      · exact words_lt ns x hx
theorem rep_len {e : Int} {g : Bool} {N : List Int} {B : List Nat} (h : RepIs e g N 0 B) : B.length = 34 := by
  rcases h with ⟨h, _⟩ | ⟨_, h1, h2, ns, h3, h⟩
  · cases h
  · rw [h, repB_len, h3.1]
/-- a reply has one form -/
theorem rep_one {e : Int} {g : Bool} {N : List Int} (hN : N.length = 4) {q q' : Int} {B B' : List Nat} (h : RepIs e g N q B) (h' : RepIs e g N q' B') : q = q' ∧ B = B' := by
  have key : ∀ {ns : List Nat}, HeadOk N 4 ns → ∀ x ∈ N, okN x := fun {ns} h x hx => by
    obtain ⟨h1, h2, h3⟩ := h
    rw [List.take_of_length_le (by rw [hN]; exact Nat.le_refl _)] at h2
    rw [← h2] at hx
    obtain ⟨y, hy, rfl⟩ := List.mem_map.1 hx
    have := h3 y hy
    unfold okN
    omega
  rcases h with ⟨h1, h2, h3⟩ | ⟨h1, h2, h3, ns, h4, h5⟩
  · rcases h' with ⟨k1, k2, k3⟩ | ⟨k1, k2, k3, ns', k4, k5⟩
    · exact ⟨by rw [h1, k1], by rw [h2, k2]⟩
    · exact absurd ⟨k2, k3, key k4⟩ h3
  · rcases h' with ⟨k1, k2, k3⟩ | ⟨k1, k2, k3, ns', k4, k5⟩
    · exact absurd ⟨h2, h3, key h4⟩ k3
    · refine ⟨by rw [h1, k1], ?_⟩
      have e1 : ns = ns' := by
        have e2 := h4.2.1.trans k4.2.1.symm
        exact (List.map_inj_right (fun x y e => Int.ofNat.inj e)).1 e2
      rw [h5, k5, e1]
/-- one frame comes, whole -/
theorem fed_one {s : CSt} (hw : s.ws = []) (hcl : s.cl = false) (hf : s.fin = 0) {R : List Nat} {c : CCall} (h1 : 1 ≤ R.length) (h2 : R.length ≤ 4096) (hd : decC R = some c) : fedS s (s.ws ++ (len4 R.length ++ R)) = { s with line := s.line ++ [c] } := by
  have hp := parse_enc R [] h1 h2
  rw [List.append_nil, parse_nil] at hp
  rw [hw, List.nil_append]
  obtain ⟨ws, cl, line, fin, out, wr, led, closed, hung⟩ := s
  dsimp only at hw hcl hf ⊢
  subst hw hcl hf
  unfold fedS leftF finF
  rw [hp]
  dsimp only
  simp [readL, hd]

theorem replied_acq {s : CSt} {c : CCall} {sn : Int} {B : List Nat} (hh : s.hung = false) (hc : c.op = 2) : repliedS s c 0 sn B = { s with wr := s.wr ++ (len4 B.length ++ B), out := none, led := s.led ++ [⟨(c.pol : Int), c.key, sn⟩] } := by
  unfold repliedS wrote
  rw [if_pos rfl, if_pos hc, if_pos ⟨rfl, hh⟩]
theorem replied_err {s : CSt} {c : CCall} {e : Int} {B : List Nat} (he : e ≠ 0) (hh : s.hung = false) (sn : Int) : repliedS s c e sn B = { s with wr := s.wr ++ (len4 B.length ++ B), out := none } := by
  unfold repliedS wrote
  rw [if_neg he, if_pos ⟨rfl, hh⟩]
/-- a call's frame -/
def frameOf (c : CCall) : List Nat := len4 (reqB c.op c.pol c.key c.num).length ++ reqB c.op c.pol c.key c.num
theorem norm_len' {c : CCall} (h : NormC c.op c.pol c.key c.num) : c.key.length ≤ 255 ∧ 1 ≤ (reqB c.op c.pol c.key c.num).length ∧ (reqB c.op c.pol c.key c.num).length ≤ 1000 ∧ (∀ x ∈ reqB c.op c.pol c.key c.num, x < 256) := by
  have hk : c.key.length ≤ 255 := by
    by_cases h5 : 5 ≤ c.op
    · rw [(h.2.2.1 h5).2.1]; simp
    · exact (h.1.2.2.1 (by omega)).2
  exact ⟨hk, reqB_pos' _ _ _ _, reqB_len' hk, reqB_lt h.1 h.2.1⟩
end

section
open Go.RowKit

/-- a line: its connection, its state, what was written to it, is a token given back, those still to be given back, were they looked at -/
structure LSt where
  cn : Option CSt
  st : Nat
  wr : List Nat
  rel : Bool
  toks : List CTok
  looked : Bool
def lnZ : LSt := ⟨none, 0, [], false, [], false⟩
def CnAt (w : World) (D : Nat → Prop) (v0 : Value) (Lb : List (Option Nat)) (wb : Option Nat) : Option CSt → Prop
  | none => v0 = .pointer none ∧ Lb = []
  | some s => ∃ base gc r RO, v0 = ptrV gc ∧ ConnAt w base Lb RO gc r s ∧ ∀ b, RO b → D b ∧ wb ≠ some b
/-- a line in memory: D are its blocks, v its cells -/
def LnAt (w : World) (D : Nat → Prop) (v : Nat → Value) (l : LSt) : Prop :=
  ∃ (WA TA : Option Addr) (wc tc : Nat) (tk : List KRef) (Lb : List (Option Nat)) (T : Nat → Prop),
    v 1 = .int .i64 (l.st : Int) ∧ v 2 = .slice WA l.wr.length wc ∧ v 3 = .bool l.rel ∧ v 4 = .slice TA l.toks.length tc ∧ v 5 = .bool l.looked ∧
    w.ownsRow 0 5 1 (.slice WA l.wr.length wc) l.wr.length (vals .u8 l.wr) ∧ (∀ q, (Value.slice WA l.wr.length wc).ownBlock = some q → D q ∧ some q ∉ Lb ∧ ¬ T q) ∧
    l.toks.length ≤ tc ∧ TokRd w TA l.toks tk ∧ (∀ a, TA = some a → T a.block) ∧ (∀ k ∈ tk, KeyIn T k) ∧ (∀ b, T b → D b ∧ some b ∉ Lb) ∧ (∀ b, some b ∈ Lb → D b) ∧
    CnAt w D (v 0) Lb (Value.slice WA l.wr.length wc).ownBlock l.cn
theorem LnAt.gb {w w' : World} {D S : Nat → Prop} {v : Nat → Value} {l : LSt} (h : LnAt w D v l) (g : GB w w' S) (hS : ∀ i, D i → ¬ S i) : LnAt w' D v l := by
  obtain ⟨WA, TA, wc, tc, tk, Lb, T, h1, h2, h3, h4, h5, h6, h7, h8, h9, h10, h11, h12, h13, h14⟩ := h
  have hT : ∀ b, T b → ¬ S b := fun b hb => hS b (h12 b hb).1
  refine ⟨WA, TA, wc, tc, tk, Lb, T, h1, h2, h3, h4, h5, g.own h6 (fun q e => hS q (h7 q e).1), h7, h8, ⟨h9.1, g.rd h9.2.1 (fun a ha => hT _ (h10 a ha)), h9.2.2.gbk h11 g hT⟩, h10, h11, h12, h13, ?_⟩
  cases hc : l.cn with
  | none => rw [hc] at h14; exact h14
  | some s =>
    rw [hc] at h14
    obtain ⟨base, gc, r, RO, e1, e2, e3⟩ := h14
    exact ⟨base, gc, r, RO, e1, e2.gb g (fun b hb => ⟨fun e => hS b (h13 b e) hb, fun e => hS b (e3 b e).1 hb⟩), e3⟩
theorem LnAt.ext {w w' : World} {D : Nat → Prop} {v : Nat → Value} {l : LSt} (h : LnAt w D v l) (x : Ext w w') : LnAt w' D v l := h.gb (GB.of_ext (fun _ => False) x) (fun _ _ e => e)
theorem LnAt.zero (w : World) (D : Nat → Prop) (v : Nat → Value) (h0 : v 0 = .pointer none) (h1 : v 1 = .int .i64 0) (h2 : v 2 = .slice none 0 0) (h3 : v 3 = .bool false) (h4 : v 4 = .slice none 0 0) (h5 : v 5 = .bool false) : LnAt w D v lnZ :=
  ⟨none, none, 0, 0, [], [], fun _ => False, h1, h2, h3, h4, h5, World.ownsRow_nil _ _ _ _, (fun q e => by simp [Value.ownBlock] at e), Nat.le_refl _, ⟨rfl, Rd.nil _ _, fun p hp => by cases hp⟩, (fun a e => by cases e), (fun k hk => by cases hk), (fun _ e => e.elim), (fun b e => by cases e), ⟨h0, rfl⟩⟩
abbrev Grow (D : Nat → Prop) (w w' : World) : Nat → Prop := fun i => D i ∨ (w.heap.size ≤ i ∧ i < w'.heap.size)
/-- its connection goes on -/
theorem LnAt.conn {w : World} {D : Nat → Prop} {v : Nat → Value} {l : LSt} {s : CSt} (h : LnAt w D v l) (hD : ∀ i, D i → i < w.heap.size) (hs : l.cn = some s) :
    ∃ base gc r L RO, v 0 = ptrV gc ∧ ConnAt w base L RO gc r s ∧ (∀ b, some b ∈ L → D b) ∧ ∀ w' s', ConnGo w base L RO gc r s' w' → LnAt w' (Grow D w w') v { l with cn := some s' } := by
  obtain ⟨WA, TA, wc, tc, tk, Lb, T, h1, h2, h3, h4, h5, h6, h7, h8, h9, h10, h11, h12, h13, h14⟩ := h
  rw [hs] at h14
  obtain ⟨base, gc, r, RO, e1, e2, e3⟩ := h14
  refine ⟨base, gc, r, Lb, RO, e1, e2, h13, fun w' s' hgo => ?_⟩
  obtain ⟨L', RO', g1, g2, g3, g4⟩ := hgo
  have hnew : ∀ b, D b → some b ∉ Lb → some b ∉ L' := fun b hb hn e => (g3 b e).elim hn (fun e => by have := hD b hb; omega)
  have hT : ∀ b, T b → ¬ some b ∈ Lb := fun b hb => (h12 b hb).2
  have hlt := g1.bounds
  refine ⟨WA, TA, wc, tc, tk, L', T, h1, h2, h3, h4, h5, g2.own h6 (fun q e => (h7 q e).2.1), fun q e => ⟨.inl (h7 q e).1, hnew q (h7 q e).1 (h7 q e).2.1, (h7 q e).2.2⟩, h8, ⟨h9.1, g2.rd h9.2.1 (fun a ha => hT _ (h10 a ha)), h9.2.2.gbk h11 g2 hT⟩, h10, h11, fun b hb => ⟨.inl (h12 b hb).1, hnew b (h12 b hb).1 (h12 b hb).2⟩,
    fun b hb => (g3 b hb).imp (h13 b) (fun e => ⟨e, (hlt.2.1 b hb).2⟩), base, gc, r, RO', e1, g1, fun b hb => ⟨?_, fun e => ?_⟩⟩
  · rcases g4 b hb with e | e | e
    · exact .inl (e3 b e).1
    · exact .inl (h13 b e)
    · exact .inr ⟨e, (hlt.2.2 b hb).2.2⟩
  · rcases g4 b hb with e4 | e4 | e4
    · exact (e3 b e4).2 e
    · exact (h7 b e).2.1 e4
    · have := hD b (h7 b e).1; omega
/-- other tokens, in memory that nothing writes -/
theorem LnAt.toks {w w' : World} {D : Nat → Prop} {v v' : Nat → Value} {l : LSt} (h : LnAt w D v l) (hD : ∀ i, D i → i < w.heap.size) (x : Ext w w') {TA : Option Addr} {tc : Nat} {tk : List KRef} {l2 : List CTok} (hr : TokRd w' TA l2 tk) (hc : l2.length ≤ tc) (ha : ∀ a, TA = some a → w.heap.size ≤ a.block ∧ a.block < w'.heap.size) (hk : ∀ k ∈ tk, ∀ a, k.1 = some a → w.heap.size ≤ a.block ∧ a.block < w'.heap.size)
    (h0 : v' 0 = v 0) (h1 : v' 1 = v 1) (h2 : v' 2 = v 2) (h3 : v' 3 = v 3) (h4 : v' 4 = .slice TA l2.length tc) {looked : Bool} (h5 : v' 5 = .bool looked) : LnAt w' (Grow D w w') v' { l with toks := l2, looked := looked } := by
  obtain ⟨WA, TA0, wc, tc0, tk0, Lb, T, k1, k2, k3, -, -, h6, h7, -, -, -, -, -, h13, h14⟩ := h.ext x
  refine ⟨WA, TA, wc, tc, tk, Lb, fun i => w.heap.size ≤ i ∧ i < w'.heap.size, h1.trans k1, h2.trans k2, h3.trans k3, h4, h5, h6, fun q e => ⟨.inl (h7 q e).1, (h7 q e).2.1, fun e2 => by have := hD q (h7 q e).1; omega⟩, hc, hr, ha, fun k hk9 a e => hk k hk9 a e, fun b hb => ⟨.inr hb, fun e => by have := hD b (h13 b e); omega⟩, fun b hb => .inl (h13 b hb), ?_⟩
  rw [h0]
  cases hc : l.cn with
  | none => rw [hc] at h14; exact h14
  | some s =>
    rw [hc] at h14
    obtain ⟨base, gc, r, RO, e1, e2, e3⟩ := h14
    exact ⟨base, gc, r, RO, e1, e2, fun b hb => ⟨.inl (e3 b hb).1, (e3 b hb).2⟩⟩
end

section
open Go.RowKit

def DO (gd : Nat) (D : Nat → Nat → Prop) : Nat → Prop := fun i => i = gd ∨ ∃ n, D n i
def DSet (gd : Nat) (C : Nat → Prop) (D : Nat → Nat → Prop) : Nat → Prop := fun i => C i ∨ DO gd D i
def upd1 {α : Type} (f : Nat → α) (n : Nat) (x : α) : Nat → α := fun i => if i = n then x else f i
theorem upd1_self {α : Type} (f : Nat → α) (n : Nat) (x : α) : upd1 f n x n = x := if_pos rfl
theorem upd1_other {α : Type} (f : Nat → α) {n i : Nat} (x : α) (h : i ≠ n) : upd1 f n x i = f i := if_neg h
def DaeAt (w : World) (gd : Nat) (g : CoK) (C : Nat → Prop) (xb : Nat → Nat) (L : List AccE) (ks : KSt) (dr : Bool) (ls : Nat → LSt) (D : Nat → Nat → Prop) : Prop :=
  ∃ lv : Nat → Nat → Value, CoAt w g (DO gd D) C xb L ks ∧ (∃ cs t, w.heap[gd]? = some (.cells cs t (0, 0))) ∧ w.cell? ⟨gd, 0, none⟩ = some (ptrV g.gx) ∧ w.cell? ⟨gd, 379, none⟩ = some (.bool dr) ∧
    (∀ n k, n < 63 → k < 6 → w.cell? ⟨gd, 1 + n * 6 + k, none⟩ = some (lv n k)) ∧ (∀ n, n < 63 → LnAt w (D n) (lv n) (ls n)) ∧ (∀ n i, D n i → i ≠ gd ∧ i < w.heap.size) ∧ ∀ n m i, D n i → D m i → n = m
/-- it went on -/
def DaeGo (w : World) (gd : Nat) (g : CoK) (C : Nat → Prop) (D : Nat → Nat → Prop) (N : Nat) (ks : KSt) (dr : Bool) (ls : Nat → LSt) (w' : World) : Prop :=
  ∃ C' xb' L' D', L'.length ≤ N ∧ DaeAt w' gd g C' xb' L' ks dr ls D' ∧ GB w w' (DSet gd C D) ∧ ∀ i, DSet gd C' D' i → DSet gd C D i ∨ w.heap.size ≤ i
theorem DaeAt.lt {w : World} {gd : Nat} {g : CoK} {C : Nat → Prop} {xb : Nat → Nat} {L : List AccE} {ks : KSt} {dr : Bool} {ls : Nat → LSt} {D : Nat → Nat → Prop} (h : DaeAt w gd g C xb L ks dr ls D) : ∀ i, DSet gd C D i → i < w.heap.size := by
  obtain ⟨lv, h1, -⟩ := h
  exact fun i hi => hi.elim (h1.lt i) (h1.ol i)
theorem DaeAt.ext {w w' : World} {gd : Nat} {g : CoK} {C : Nat → Prop} {xb : Nat → Nat} {L : List AccE} {ks : KSt} {dr : Bool} {ls : Nat → LSt} {D : Nat → Nat → Prop} (h : DaeAt w gd g C xb L ks dr ls D) (x : Ext w w') : DaeAt w' gd g C xb L ks dr ls D := by
  obtain ⟨lv, h1, ⟨cs, t, h2⟩, h3, h4, h5, h6, h7, h8⟩ := h
  exact ⟨lv, h1.ext x, ⟨cs, t, blk_ext h2 x⟩, ext_cell x h3, ext_cell x h4, fun n k hn hk => ext_cell x (h5 n k hn hk), fun n hn => (h6 n hn).ext x, fun n i hi => ⟨(h7 n i hi).1, Nat.lt_of_lt_of_le (h7 n i hi).2 x.size⟩, h8⟩
theorem DaeGo.back {w0 w w1 : World} {gd N : Nat} {g : CoK} {C : Nat → Prop} {ks : KSt} {dr : Bool} {ls : Nat → LSt} {D : Nat → Nat → Prop} (x : Ext w0 w) (h : DaeGo w gd g C D N ks dr ls w1) : DaeGo w0 gd g C D N ks dr ls w1 := by
  obtain ⟨C', xb', L', D', h1, h2, h3, h4⟩ := h
  exact ⟨C', xb', L', D', h1, h2, GB.back x h3, fun i hi => (h4 i hi).imp id (Nat.le_trans x.size)⟩
theorem DaeGo.trans {w w1 w2 : World} {gd N : Nat} {g : CoK} {C C1 : Nat → Prop} {ks : KSt} {dr : Bool} {ls : Nat → LSt} {D D1 : Nat → Nat → Prop} (k : GB w w1 (DSet gd C D)) (hC : ∀ i, DSet gd C1 D1 i → DSet gd C D i ∨ w.heap.size ≤ i) (h : DaeGo w1 gd g C1 D1 N ks dr ls w2) : DaeGo w gd g C D N ks dr ls w2 := by
  obtain ⟨C', xb', L', D', h1, h2, h3, h4⟩ := h
  exact ⟨C', xb', L', D', h1, h2, k.trans h3 hC, fun i hi => (h4 i hi).elim (hC i) (fun e => .inr (Nat.le_trans k.size e))⟩
/-- the core went on -/
theorem DaeAt.core {w : World} {gd : Nat} {g : CoK} {C : Nat → Prop} {xb : Nat → Nat} {L : List AccE} {ks : KSt} {dr : Bool} {ls : Nat → LSt} {D : Nat → Nat → Prop} (h : DaeAt w gd g C xb L ks dr ls D) :
    CoAt w g (DO gd D) C xb L ks ∧ w.cell? ⟨gd, 0, none⟩ = some (ptrV g.gx) ∧ gd < w.heap.size ∧
      ∀ w' C' xb' L' ks', CoMov w g (DO gd D) C xb' L' ks' C' w' → DaeAt w' gd g C' xb' L' ks' dr ls D ∧ GB w w' (DSet gd C D) ∧ ∀ i, DSet gd C' D i → DSet gd C D i ∨ w.heap.size ≤ i := by
  obtain ⟨lv, h1, ⟨cs, t, h2⟩, h3, h4, h5, h6, h7, h8⟩ := h
  refine ⟨h1, h3, blk_lt h2, fun w' C' xb' L' ks' hm => ?_⟩
  obtain ⟨m1, m2, m3⟩ := hm
  have nC : ∀ i, DO gd D i → ¬ C i := fun i hi e => h1.co i e hi
  have ngd : ¬ C gd := nC gd (.inl rfl)
  exact ⟨⟨lv, m1, ⟨cs, t, m2.blk h2 ngd⟩, m2.cell h3 ngd, m2.cell h4 ngd, fun n k hn hk => m2.cell (h5 n k hn hk) ngd, fun n hn => (h6 n hn).gb m2 (fun i hi => nC i (.inr ⟨n, hi⟩)), fun n i hi => ⟨(h7 n i hi).1, Nat.lt_of_lt_of_le (h7 n i hi).2 m2.size⟩, h8⟩,
    m2.more (fun _ _ e => .inl e), fun i hi => hi.elim (fun e => (m3 i e).imp .inl id) (fun e => .inl (.inr e))⟩
/-- a line of it, and what it may become -/
theorem DaeAt.line {w : World} {gd : Nat} {g : CoK} {C : Nat → Prop} {xb : Nat → Nat} {L : List AccE} {ks : KSt} {dr : Bool} {ls : Nat → LSt} {D : Nat → Nat → Prop} (h : DaeAt w gd g C xb L ks dr ls D) {n : Nat} (hn : n < 63) :
    ∃ v : Nat → Value, (∀ k, k < 6 → w.cell? ⟨gd, 1 + n * 6 + k, none⟩ = some (v k)) ∧ (∀ j, w.frozen? ⟨gd, j, none⟩ = false) ∧ LnAt w (D n) v (ls n) ∧ (∀ i, D n i → i ≠ gd ∧ i < w.heap.size) ∧ gd < w.heap.size ∧ w.cell? ⟨gd, 379, none⟩ = some (.bool dr) ∧ (∀ i, D n i → ¬ C i) ∧ ¬ C gd ∧
      ∀ w' D2 v2 l2, GB w w' (fun i => i = gd ∨ D n i) → (∃ cs t, w'.heap[gd]? = some (.cells cs t (0, 0))) → (∀ k, k < 6 → w'.cell? ⟨gd, 1 + n * 6 + k, none⟩ = some (v2 k)) → (∀ j, j < 1 + n * 6 ∨ 7 + n * 6 ≤ j → w'.cell? ⟨gd, j, none⟩ = w.cell? ⟨gd, j, none⟩) →
        LnAt w' D2 v2 l2 → (∀ i, D2 i → (D n i ∨ w.heap.size ≤ i) ∧ i < w'.heap.size) →
        DaeAt w' gd g C xb L ks dr (upd1 ls n l2) (upd1 D n D2) ∧ GB w w' (DSet gd C D) ∧ ∀ i, DSet gd C (upd1 D n D2) i → DSet gd C D i ∨ w.heap.size ≤ i := by
  obtain ⟨lv, h1, ⟨cs, t, h2⟩, h3, h4, h5, h6, h7, h8⟩ := h
  have hgd := blk_lt h2
  refine ⟨lv n, fun k hk => h5 n k hn hk, fun j => blk_frozen h2 j, h6 n hn, h7 n, hgd, h4, fun i hi e => h1.co i e (.inr ⟨n, hi⟩), fun e => h1.co gd e (.inl rfl), fun w' D2 v2 l2 gb hb hv hj hl hD => ?_⟩
  have hgrow : ∀ i, DO gd (upd1 D n D2) i → DO gd D i ∨ w.heap.size ≤ i := fun i hi => by
    rcases hi with e | ⟨m, e⟩
    · exact .inl (.inl e)
    · by_cases hm : m = n
      · subst hm
        rw [upd1_self] at e
        exact (hD i e).1.imp (fun e => .inr ⟨m, e⟩) id
      · rw [upd1_other D D2 hm] at e
        exact .inl (.inr ⟨m, e⟩)
  have hlt : ∀ m i, upd1 D n D2 m i → i ≠ gd ∧ i < w'.heap.size := fun m i e => by
    by_cases hm : m = n
    · subst hm
      rw [upd1_self] at e
      refine ⟨fun e2 => ?_, (hD i e).2⟩
      rcases (hD i e).1 with e3 | e3
      · exact (h7 m i e3).1 e2
      · omega
    · rw [upd1_other D D2 hm] at e
      exact ⟨(h7 m i e).1, Nat.lt_of_lt_of_le (h7 m i e).2 gb.size⟩
  refine ⟨⟨fun m => if m = n then v2 else lv m, h1.far gb (fun i _ e => e.elim .inl (fun e => .inr ⟨n, e⟩)) (fun i hi e => (hgrow i e).resolve_right (by omega)) (fun i e => ?_), hb, (hj 0 (by omega)).trans h3, (hj 379 (by omega)).trans h4, fun m k hm hk => ?_, fun m hm => ?_, hlt, fun m q i e1 e2 => ?_⟩, gb.more (fun i _ e => .inr (e.elim .inl (fun e => .inr ⟨n, e⟩))), fun i hi => hi.elim (fun e => .inl (.inl e)) (fun e => (hgrow i e).imp .inr id)⟩
  · rcases e with e | ⟨m, e⟩
    · exact e ▸ Nat.lt_of_lt_of_le hgd gb.size
    · exact (hlt m i e).2
  · by_cases e : m = n
    · subst e
      dsimp only
      rw [if_pos rfl]
      exact hv k hk
    · dsimp only
      rw [if_neg e]
      exact (hj _ (by omega)).trans (h5 m k hm hk)
  · by_cases e : m = n
    · subst e
      dsimp only
      rw [if_pos rfl, upd1_self, upd1_self]
      exact hl
    · dsimp only
      rw [if_neg e, upd1_other _ _ e, upd1_other _ _ e]
      refine (h6 m hm).gb gb (fun i hi e2 => ?_)
      rcases e2 with e2 | e2
      · exact (h7 m i hi).1 e2
      · exact e (h8 m n i hi e2)
  · have key : ∀ m i, m ≠ n → upd1 D n D2 m i → upd1 D n D2 n i → False := fun m i hm e1 e2 => by
      rw [upd1_other D D2 hm] at e1
      rw [upd1_self] at e2
      rcases (hD i e2).1 with e3 | e3
      · exact hm (h8 m n i e1 e3)
      · have := (h7 m i e1).2; omega
    by_cases hm : m = n
    · by_cases hq : q = n
      · rw [hm, hq]
      · subst hm
        exact (key q i hq e2 e1).elim
    · by_cases hq : q = n
      · subst hq
        exact (key m i hm e1 e2).elim
      · rw [upd1_other D D2 hm] at e1
        rw [upd1_other D D2 hq] at e2
        exact h8 m q i e1 e2
end

section
open Go.RowKit

/-- a daemon: its core, its lines, does it drain -/
structure DSt where
  ks : KSt
  ls : Nat → LSt
  dr : Bool
/-- a reply's bytes -/
def repBy (r : KRep) : List Nat := repB r.er r.granted [r.left.toNat, r.wait.toNat, r.ser.toNat, r.now.toNat]
def RepOk (r : KRep) : Prop := r.er ≤ 16 ∧ okN r.left ∧ okN r.wait ∧ okN r.ser ∧ okN r.now
theorem repIs_by {r : KRep} (h : RepOk r) : RepIs (r.er : Int) r.granted [r.left, r.wait, r.ser, r.now] 0 (repBy r) := by
  obtain ⟨h1, ⟨a1, a2⟩, ⟨b1, b2⟩, ⟨c1, c2⟩, ⟨d1, d2⟩⟩ := h
  refine .inr ⟨rfl, by omega, by omega, [r.left.toNat, r.wait.toNat, r.ser.toNat, r.now.toNat], ⟨rfl, ?_, ?_⟩, rfl⟩
  · simp only [List.map_cons, List.map_nil, List.take_succ_cons, List.take_zero]
    rw [Int.toNat_of_nonneg a1, Int.toNat_of_nonneg b1, Int.toNat_of_nonneg c1, Int.toNat_of_nonneg d1]
  · intro x hx
    simp at hx
    rcases hx with rfl | rfl | rfl | rfl <;> omega
/-- a line's call is answered -/
def repliedL (l : LSt) (r : KRep) : LSt := match l.cn with
  | none => l
  | some s => match s.out with
    | none => l
    | some c => { l with cn := some (repliedS s c (r.er : Int) r.ser (repBy r)) }
/-- what is to be written is taken -/
def takeL (l : LSt) : LSt := match l.cn with
  | none => l
  | some s => { l with cn := some { s with wr := [] }, wr := l.wr ++ s.wr }
def hangL (l : LSt) : LSt := match l.cn with
  | none => { l with st := 2 }
  | some s => { l with cn := some (hangS { s with wr := [] }), wr := l.wr ++ s.wr, st := 2 }
def callP (c : CCall) : PCall := ⟨c.op, c.pol, c.key, (c.num : Int)⟩
def tokP (t : CTok) : PCall := ⟨3, t.pol.toNat, t.key, t.ser⟩
def startK (ks : KSt) (n : Nat) (x : PCall) : KSt := ks.put n (.run x false 0 (firstK x))
theorem upd1_upd1 {α : Type} (f : Nat → α) (n : Nat) (x y : α) : upd1 (upd1 f n x) n y = upd1 f n y := by
  funext i
  unfold upd1
  split <;> rfl
theorem upd1_eq {α : Type} (f : Nat → α) (n : Nat) : upd1 f n (f n) = f := by
  funext i
  unfold upd1
  split
  · next h => rw [h]
  · rfl
end

section
open Go.RowKit

theorem takeL_some {l : LSt} {s : CSt} (h : l.cn = some s) : takeL l = { l with cn := some { s with wr := [] }, wr := l.wr ++ s.wr } := by
  unfold takeL
  rw [h]
theorem LnAt.state {w : World} {D : Nat → Prop} {v v' : Nat → Value} {l : LSt} (h : LnAt w D v l) {st : Nat} (h0 : v' 0 = v 0) (h1 : v' 1 = .int .i64 (st : Int)) (h2 : v' 2 = v 2) (h3 : v' 3 = v 3) (h4 : v' 4 = v 4) (h5 : v' 5 = v 5) : LnAt w D v' { l with st := st } := by
  obtain ⟨WA, TA, wc, tc, tk, Lb, T, -, k2, k3, k4, k5, h6, h7, h8, h9, h10, h11, h12, h13, h14⟩ := h
  exact ⟨WA, TA, wc, tc, tk, Lb, T, h1, h2.trans k2, h3.trans k3, h4.trans k4, h5.trans k5, h6, h7, h8, h9, h10, h11, h12, h13, by rw [h0]; exact h14⟩
theorem hangL_some {l : LSt} {s : CSt} (h : l.cn = some s) : (⟨some (hangS { s with wr := [] }), 2, (takeL l).wr, (takeL l).rel, (takeL l).toks, (takeL l).looked⟩ : LSt) = hangL l := by
  unfold hangL
  rw [takeL_some h, h]
theorem LnAt.taken {w : World} {D : Nat → Prop} {v : Nat → Value} {l : LSt} {s : CSt} (h : LnAt w D v l) (hD : ∀ i, D i → i < w.heap.size) (hs : l.cn = some s) :
    ∃ (WA : Option Addr) (wc base gc r : Nat) (Lb : List (Option Nat)) (RO : Nat → Prop), v 0 = ptrV gc ∧ v 2 = .slice WA l.wr.length wc ∧ ConnAt w base Lb RO gc r s ∧ D gc ∧
      w.ownsRow 0 5 1 (.slice WA l.wr.length wc) l.wr.length (vals .u8 l.wr) ∧ (∀ q, (Value.slice WA l.wr.length wc).ownBlock = some q → D q ∧ q ≠ gc) ∧
      ∀ (w1 : World) (L' : List (Option Nat)), ConnAt w1 base L' RO gc r { s with wr := [] } → GB w w1 (· = gc) → (∀ b, some b ∈ L' → some b ∈ Lb) →
        ∀ (w2 : World) (B : Option Addr) (nb cb : Nat), (l.wr ++ s.wr).length = nb → w2.ownsRow 0 5 1 (.slice B nb cb) nb (vals .u8 (l.wr ++ s.wr)) → w1.grownBy w2 (Value.slice WA l.wr.length wc).ownBlock →
          ((Value.slice B nb cb).ownBlock = (Value.slice WA l.wr.length wc).ownBlock ∨ (Value.slice B nb cb).ownBlock = some w1.heap.size) →
          ∀ (w3 : World) (v' : Nat → Value) (gd : Nat), GB w2 w3 (· = gd) → ¬ D gd → gd < w.heap.size → v' 0 = v 0 → v' 1 = v 1 → v' 2 = .slice B nb cb → v' 3 = v 3 → v' 4 = v 4 → v' 5 = v 5 →
            LnAt w3 (Grow D w w3) v' (takeL l) := by
  obtain ⟨WA, TA, wc, tc, tk, Lb, T, h1, h2, h3, h4, h5, h6, h7, h8, h9, h10, h11, h12, h13, h14⟩ := h
  rw [hs] at h14
  obtain ⟨base, gc, r, RO, e1, e2, e3⟩ := h14
  have hb := e2.bounds
  refine ⟨WA, wc, base, gc, r, Lb, RO, e1, h2, e2, h13 gc hb.1, h6, fun q e => ⟨(h7 q e).1, fun e9 => (h7 q e).2.1 (by rw [e9]; exact hb.1)⟩, fun w1 L' k1 k2 k3 w2 B nb cb hnb o2 g2 b2 w3 v' gd g3 hgd hgdl q0 q1 q2 q3 q4 q5 => ?_⟩
  subst hnb
  have x13 : GB w1 w3 (fun i => (Value.slice WA l.wr.length wc).ownBlock = some i ∨ i = gd) := ((GB.refl w1 _).grown g2 (fun q e => .inl (.inl e))).trans g3 (fun i e => .inl (.inr e))
  have x03 : GB w w3 (fun i => i = gc ∨ (Value.slice WA l.wr.length wc).ownBlock = some i ∨ i = gd) := (k2.more (fun i _ e => .inl e)).trans x13 (fun i e => .inl (.inr e))
  have hT : ∀ b, T b → ¬ (b = gc ∨ (Value.slice WA l.wr.length wc).ownBlock = some b ∨ b = gd) := fun b hb9 e => by
    rcases e with e | e | e
    · exact (h12 b hb9).2 (by rw [e]; exact hb.1)
    · exact (h7 b e).2.2 hb9
    · exact hgd (e ▸ (h12 b hb9).1)
  have hz1 := k2.size
  rw [takeL_some hs]
  refine ⟨B, TA, cb, tc, tk, L', T, q1.trans h1, q2, q3.trans h3, q4.trans h4, q5.trans h5, g3.own o2 (fun q e e9 => ?_), fun q e => ?_, h8, ⟨h9.1, x03.rd h9.2.1 (fun a ha => hT _ (h10 a ha)), h9.2.2.gbk h11 x03 hT⟩, h10, h11, fun b hb9 => ⟨.inl (h12 b hb9).1, fun e => (h12 b hb9).2 (k3 b e)⟩, fun b hb9 => .inl (h13 b (k3 b hb9)), base, gc, r, RO, q0.trans e1, k1.gb x13 (fun b e => ?_), fun b hb9 => ⟨.inl (e3 b hb9).1, fun e => ?_⟩⟩
  · rcases b2 with b2 | b2
    · rw [b2] at e
      exact hgd (e9 ▸ (h7 q e).1)
    · rw [b2] at e
      injection e with e
      omega
  · rcases b2 with b2 | b2
    · rw [b2] at e
      exact ⟨.inl (h7 q e).1, fun e9 => (h7 q e).2.1 (k3 q e9), (h7 q e).2.2⟩
    · have hq := (o2.lt q e).2
      have hq3 := g3.size
      rw [b2] at e
      injection e with e
      exact ⟨.inr ⟨by omega, by omega⟩, fun e9 => by have := (hb.2.1 q (k3 q e9)).2; omega, fun e9 => by have := hD q (h12 q e9).1; omega⟩
  · rcases e with e | e
    · exact ⟨fun e9 => (h7 b e).2.1 (k3 b e9), fun e9 => (e3 b e9).2 e⟩
    · exact ⟨fun e9 => hgd (e ▸ h13 b (k3 b e9)), fun e9 => hgd (e ▸ (e3 b e9).1)⟩
  · rcases b2 with b2 | b2
    · rw [b2] at e
      exact (e3 b hb9).2 e
    · rw [b2] at e
      injection e with e
      have := (hb.2.2 b hb9).2.2
      omega
/-- a line's cells, one being written -/
theorem line_set {W : World} {gd : Nat} {cs : Array Value} {t : TypeId} (hb : W.heap[gd]? = some (.cells cs t (0, 0))) {n k0 : Nat} {v : Nat → Value} (hk0 : k0 < 6) (hv : ∀ k, k < 6 → cs[1 + n * 6 + k]? = some (v k)) (x : Value) :
    (W.setCell ⟨gd, 1 + n * 6 + k0, none⟩ x).heap[gd]? = some (.cells (cs.setIfInBounds (1 + n * 6 + k0) x) t (0, 0)) ∧ (∀ k, k < 6 → (cs.setIfInBounds (1 + n * 6 + k0) x)[1 + n * 6 + k]? = some (upd1 v k0 x k)) ∧
      ∀ j, j < 1 + n * 6 ∨ 7 + n * 6 ≤ j → (cs.setIfInBounds (1 + n * 6 + k0) x)[j]? = cs[j]? := by
  refine ⟨blk_set hb _ x, fun k hk => ?_, fun j hj => ?_⟩
  · by_cases e : k = k0
    · subst e
      rw [upd1_self, Array.getElem?_setIfInBounds_self_of_lt]
      exact (Array.getElem?_eq_some_iff.1 (hv k hk)).1
    · rw [upd1_other _ _ e, Array.getElem?_setIfInBounds_ne (by omega)]
      exact hv k hk
  · rw [Array.getElem?_setIfInBounds_ne (by omega)]
theorem DaeAt.lineA {w : World} {gd : Nat} {g : CoK} {C : Nat → Prop} {xb : Nat → Nat} {L : List AccE} {ks : KSt} {dr : Bool} {ls : Nat → LSt} {D : Nat → Nat → Prop} (h : DaeAt w gd g C xb L ks dr ls D) {n : Nat} (hn : n < 63) :
    ∃ (cs : Array Value) (t : TypeId) (v : Nat → Value), w.heap[gd]? = some (.cells cs t (0, 0)) ∧ (∀ k, k < 6 → cs[1 + n * 6 + k]? = some (v k)) ∧ LnAt w (D n) v (ls n) ∧ (∀ i, D n i → i ≠ gd ∧ i < w.heap.size) ∧ cs[379]? = some (.bool dr) ∧ (∀ i, D n i → ¬ C i) ∧ ¬ C gd ∧
      ∀ w' cs' D2 v2 l2, GB w w' (fun i => i = gd ∨ D n i) → w'.heap[gd]? = some (.cells cs' t (0, 0)) → (∀ k, k < 6 → cs'[1 + n * 6 + k]? = some (v2 k)) → (∀ j, j < 1 + n * 6 ∨ 7 + n * 6 ≤ j → cs'[j]? = cs[j]?) →
        LnAt w' D2 v2 l2 → (∀ i, D2 i → (D n i ∨ w.heap.size ≤ i) ∧ i < w'.heap.size) →
        DaeAt w' gd g C xb L ks dr (upd1 ls n l2) (upd1 D n D2) ∧ GB w w' (DSet gd C D) ∧ ∀ i, DSet gd C (upd1 D n D2) i → DSet gd C D i ∨ w.heap.size ≤ i := by
  obtain ⟨v, hv, -, hln, hD, hgd, hdr, nC, ng, hgo⟩ := h.line hn
  obtain ⟨cs, t, hb⟩ : ∃ cs t, w.heap[gd]? = some (.cells cs t (0, 0)) := by
    obtain ⟨lv, -, h2, -⟩ := h
    exact h2
  refine ⟨cs, t, v, hb, fun k hk => (blk_cell hb _).symm.trans (hv k hk), hln, hD, (blk_cell hb _).symm.trans hdr, nC, ng, fun w' cs' D2 v2 l2 gb hb' hv' hj hl hd => ?_⟩
  exact hgo w' D2 v2 l2 gb ⟨cs', t, hb'⟩ (fun k hk => (blk_cell hb' _).trans (hv' k hk)) (fun j hj' => by rw [blk_cell hb', blk_cell hb]; exact hj j hj') hl hd
theorem Grow.ok {D : Nat → Prop} {w w' : World} (hD : ∀ i, D i → i < w.heap.size) (hs : w.heap.size ≤ w'.heap.size) : ∀ i, Grow D w w' i → (D i ∨ w.heap.size ≤ i) ∧ i < w'.heap.size := fun i hi => by
  rcases hi with hi | hi
  · exact ⟨.inl hi, Nat.lt_of_lt_of_le (hD i hi) hs⟩
  · exact ⟨.inr hi.1, hi.2⟩
/-- a line's conn goes on, the daemon with it -/
theorem DaeAt.conn {w : World} {gd : Nat} {g : CoK} {C : Nat → Prop} {xb : Nat → Nat} {L : List AccE} {ks : KSt} {dr : Bool} {ls : Nat → LSt} {D : Nat → Nat → Prop} (h : DaeAt w gd g C xb L ks dr ls D) {n : Nat} (hn : n < 63) {s : CSt} (hs : (ls n).cn = some s) :
    ∃ base gc r Lb RO, w.cell? ⟨gd, 1 + n * 6, none⟩ = some (ptrV gc) ∧ ConnAt w base Lb RO gc r s ∧ some gd ∉ Lb ∧ (∀ b, some b ∈ Lb → b < w.heap.size) ∧ some g.gx ∉ Lb ∧ gd < w.heap.size ∧
      ∀ w' s', ConnGo w base Lb RO gc r s' w' → DaeAt w' gd g C xb L ks dr (upd1 ls n { ls n with cn := some s' }) (upd1 D n (Grow (D n) w w')) ∧ GB w w' (DSet gd C D) ∧ ∀ i, DSet gd C (upd1 D n (Grow (D n) w w')) i → DSet gd C D i ∨ w.heap.size ≤ i := by
  obtain ⟨v, hv, hf, hl, hD, hgd, hdr, nC, ngd, hgo⟩ := h.line hn
  obtain ⟨base, gc, r, Lb, RO, h0, hc, hLD, hcg⟩ := hl.conn (fun i hi => (hD i hi).2) hs
  have hnb : some gd ∉ Lb := fun e => (hD gd (hLD gd e)).1 rfl
  have hgx : C g.gx := by
    obtain ⟨lv, h1, -⟩ := h
    obtain ⟨Fm, fs, hv, tx, tl, tb, th, h1⟩ := h1
    exact h1.cx
  refine ⟨base, gc, r, Lb, RO, by have := hv 0 (by omega); rw [h0] at this; exact this, hc, hnb, fun b hb => (hD b (hLD b hb)).2, fun e => nC _ (hLD _ e) hgx, hgd, fun w' s' hg => ?_⟩
  have hl' := hcg w' s' hg
  obtain ⟨L', RO', g1, g2, g3, g4⟩ := hg
  have ng : ¬ (some gd ∈ Lb) := hnb
  obtain ⟨cs, t, hb⟩ : ∃ cs t, w.heap[gd]? = some (.cells cs t (0, 0)) := by
    obtain ⟨lv, -, h2, -⟩ := h
    exact h2
  refine hgo w' _ v _ (g2.more (fun i _ e => .inr (hLD i e))) ⟨cs, t, g2.blk hb ng⟩ (fun k hk => g2.cell (hv k hk) ng) (fun j _ => World.cell?_of_block (g2.block gd hgd ng)) hl' (fun i hi => ⟨hi.imp id (fun e => e.1), hi.elim (fun e => Nat.lt_of_lt_of_le (hD i e).2 g2.size) (fun e => e.2)⟩)
/-- what a line's taking leaves -/
def TakeG (w : World) (gd : Nat) (g : CoK) (C : Nat → Prop) (xb : Nat → Nat) (L : List AccE) (ks : KSt) (dr : Bool) (ls : Nat → LSt) (D : Nat → Nat → Prop) (n : Nat) (w' : World) : Prop :=
  ∃ D', DaeAt w' gd g C xb L ks dr (upd1 ls n (takeL (ls n))) D' ∧ GB w w' (DSet gd C D) ∧ ∀ i, DSet gd C D' i → DSet gd C D i ∨ w.heap.size ≤ i
set_option maxRecDepth 100000 in
set_option maxHeartbeats 4000000 in
theorem ddefer (w : World) (gd : Nat) (g : CoK) (C : Nat → Prop) (xb : Nat → Nat) (L : List AccE) (ks : KSt) (dr : Bool) (ls : Nat → LSt) (D : Nat → Nat → Prop) (n bx : Nat) (s : CSt) (u : FrameMode) (h : DaeAt w gd g C xb L ks dr ls D) (hn : n < 63) (hs : (ls n).cn = some s) (cb : w.cell? ⟨bx, 0, none⟩ = some (.pointer (some ⟨gd, 1 + n * 6, none⟩))) (hbx : ¬ DSet gd C D bx) (hl1 : (ls n).wr.length ≤ 1000000) (hl2 : s.wr.length ≤ 1000000) :
    CallsD Tryz.prog 100 #[.pointer (some ⟨bx, 0, none⟩)] u w fun e u' w' => u' = u ∧ (e = .returned (.tuple #[]) ∧ TakeG w gd g C xb L ks dr ls D n w') := by
  obtain ⟨cs, tt, v, hb, hv, hln, hD, -, -, -, hgo⟩ := h.lineA hn
  have hgd := blk_lt hb
  obtain ⟨WA, wc, base, gc, r, Lb, RO, v0, v2, hca, hDc, how, hwa, hfin⟩ := hln.taken (fun i hi => (hD i hi).2) hs
  have c0 : w.cell? ⟨gd, 1 + n * 6, none⟩ = some (ptrV gc) := (blk_cell hb _).trans (by rw [← v0]; exact hv 0 (by omega))
  have c2 : w.cell? ⟨gd, 1 + n * 6 + 2, none⟩ = some (.slice WA (ls n).wr.length wc) := (blk_cell hb _).trans (by rw [← v2]; exact hv 2 (by omega))
  have f2 := blk_frozen hb (1 + n * 6 + 2)
  have TK := Lib.hid (fun u (y : Ext w u) => ctake_any u base gc r Lb RO s (hca.ext y))
  obtain ⟨m, Hm⟩ : ∃ m, Hid ((ls n).wr.length = m) := ⟨_, rfl⟩
  obtain ⟨k, Hs⟩ : ∃ k, Hid (s.wr.length = k) := ⟨_, rfl⟩
  rw [Hm.out] at c2 how hl1 hwa
  rw [Hs.out] at TK hl2
  have HO := Lib.hid how; have C2 := Lib.hid c2
  have NGD := Lib.hid (show ¬ gd = gc from fun e => (hD gc hDc).1 e.symm)
  have NBX := Lib.hid (show ¬ bx = gc from fun e => hbx (.inr (.inr ⟨n, e ▸ hDc⟩)))
  have NWA := Lib.hid hwa
  have NGW := Lib.hid (show ∀ q, (Value.slice WA m wc).ownBlock = some q → ¬ q = gd from fun q e => (hD q (hwa q e).1).1)
  have NBW := Lib.hid (show ∀ q, (Value.slice WA m wc).ownBlock = some q → ¬ q = bx from fun q e e9 => hbx (.inr (.inr ⟨n, e9 ▸ (hwa q e).1⟩)))
  have HB := Lib.hid hb; have HGO := Lib.hid hgo; have HFIN := Lib.hid hfin; have HV := Lib.hid hv; have HD := Lib.hid hD
  have HS := Lib.hid hs; have HDG := Lib.hid hDc
  clear h hgo hfin hv hD how hwa hca hbx hb v0 v2 hln hs hDc
  go_enter_d Tryz.func100, Tryz.ntmps100
  go_upto_region 0 with fail
  refine wp_region_k (fun u => u.cell? ⟨bx, 0, none⟩ = some (.pointer (some ⟨gd, 1 + n * 6, none⟩)) ∧ u.cell? ⟨gd, 1 + n * 6 + 2, none⟩ = some (.slice WA m wc) ∧ u.cell? ⟨gd, 1 + n * 6, none⟩ = some (ptrV gc)) [13] (by kernel_rfl) ?_
  have hHeld := And.intro (drew_cell cb) (And.intro (drew_cell c2) (drew_cell c0))
  have XD : Ext w w.drew := (Ext.refl w).drew
  clear c0 c2 cb
  generalize w.drew = U at XD hHeld ⊢
  refine wpAnyK_take 20 (i := 0) (oi := _) (v := ?_) rfl (by kernel_rfl) (by kernel_rfl) (by kernel_rfl) (by kernel_rfl) (by kernel_rfl) (fun _ _ _ h => h) (Or.inl ⟨by rfl, ?_⟩) (by assumption) ?_
  rotate_left
  · intro w hSw; (try dsimp only at hSw); go_simp
    (try with_reducible rfl)
  (try simp only [Act.put])
  refine wpAnyK_take 20 (i := 1) (oi := _) (v := ?_) rfl (by kernel_rfl) (by kernel_rfl) (by kernel_rfl) (by kernel_rfl) (by kernel_rfl) (fun _ _ _ h => h) (Or.inl ⟨by rfl, ?_⟩) (by assumption) ?_
  rotate_left
  · intro w hSw; (try dsimp only at hSw); go_simp
    (try with_reducible rfl)
  (try simp only [Act.put])
  refine wpAnyK_free (i := 2) (oi := _) (v := ?_) rfl (by kernel_rfl) (by kernel_rfl) (by kernel_rfl) (by kernel_rfl) (fun _ _ _ h => h) (Or.inl ⟨by rfl, ?_⟩) (HeldT.of hHeld) ?_
  rotate_left
  · intro w _; go_simp
    (try with_reducible rfl)
  (try simp only [Act.put])
  refine wpAnyK_free (i := 3) (oi := _) (v := ?_) rfl (by kernel_rfl) (by kernel_rfl) (by kernel_rfl) (by kernel_rfl) (fun _ _ _ h => h) (Or.inl ⟨by rfl, ?_⟩) (HeldT.of hHeld) ?_
  rotate_left
  · intro w _; go_simp
    (try with_reducible rfl)
  (try simp only [Act.put])
  refine wpAnyK_take 20 (i := 4) (oi := _) (v := ?_) rfl (by kernel_rfl) (by kernel_rfl) (by kernel_rfl) (by kernel_rfl) (by kernel_rfl) (fun _ _ _ h => h) (Or.inl ⟨by rfl, ?_⟩) (by assumption) ?_
  rotate_left
  · intro w hSw; (try dsimp only at hSw); go_simp
    (try with_reducible rfl)
  (try simp only [Act.put])
  refine wpAnyK_take 20 (i := 5) (oi := _) (v := ?_) rfl (by kernel_rfl) (by kernel_rfl) (by kernel_rfl) (by kernel_rfl) (by kernel_rfl) (fun _ _ _ h => h) (Or.inl ⟨by rfl, ?_⟩) (by assumption) ?_
  rotate_left
  · intro w hSw; (try dsimp only at hSw); go_simp
    (try with_reducible rfl)
  (try simp only [Act.put])
  refine wpAnyK_free (i := 6) (oi := _) (v := ?_) rfl (by kernel_rfl) (by kernel_rfl) (by kernel_rfl) (by kernel_rfl) (fun _ _ _ h => h) (Or.inl ⟨by rfl, ?_⟩) (HeldT.of hHeld) ?_
  rotate_left
  · intro w _; go_simp
    (try with_reducible rfl)
  (try simp only [Act.put])
  refine wpAnyK_free (i := 7) (oi := _) (v := ?_) rfl (by kernel_rfl) (by kernel_rfl) (by kernel_rfl) (by kernel_rfl) (fun _ _ _ h => h) (Or.inl ⟨by rfl, ?_⟩) (HeldT.of hHeld) ?_
  rotate_left
  · intro w _; go_simp
    (try with_reducible rfl)
  (try simp only [Act.put])
  refine wpAnyK_take 20 (i := 8) (oi := _) (v := ?_) rfl (by kernel_rfl) (by kernel_rfl) (by kernel_rfl) (by kernel_rfl) (by kernel_rfl) (fun _ _ _ h => h) (Or.inl ⟨by rfl, ?_⟩) (by assumption) ?_
  rotate_left
  · intro w hSw; (try dsimp only at hSw); go_simp
    (try with_reducible rfl)
  (try simp only [Act.put])
  refine wpAnyK_ready (rs := [9]) (by kernel_rfl) (by simp) (AllReadyK.cons (o := _) rfl (fun K' hK => ?_) AllReadyK.nil)
  have d2 := hHeld.2.1
  have d0 := hHeld.2.2
  have db := hHeld.1
  go_simp
  refine (TK.out U XD).mono ?_
  rintro e w1 ⟨TA, tc, L', rfl, hca, hgb, hsub, hown, -⟩
  have HCA := Lib.hid hca; have HGU := Lib.hid hgb; have HGB := Lib.hid (GB.back XD hgb); have HSUB := Lib.hid hsub; have HOWN := Lib.hid hown
  have r2 := hgb.cell d2 NGD.out
  have r0 := hgb.cell d0 NGD.out
  have F2 := frz_gb hgb d2 (frz_ext2 XD C2.out f2) NGD.out
  have rb := hgb.cell db NBX.out
  clear hca hgb hsub hown d0 d2 hHeld db
  refine hK.out _ _ ⟨rb, r2, r0⟩ ?_
  clear hK K'
  (try simp only [Act.put])
  refine wpAnyK_ready (rs := [10]) (by kernel_rfl) (by simp) (AllReadyK.cons (o := _) rfl (fun K' hK => ?_) AllReadyK.nil)
  refine step_app_u8 w1 rfl (.tmp 5) (.tmp 10) rfl 0 (by rfl) (HGB.out.own HO.out (fun q e => (NWA.out q e).2)) (by rfl) Hs.out (Rd.of_own HOWN.out) (by omega) (Nat.zero_le _) ?_
  intro B' cb' w6 o6 g6 b6
  have hq2 := g6.cell r2 (fun e => NGW.out _ e.symm rfl)
  have hq0 := g6.cell r0 (fun e => NGW.out _ e.symm rfl)
  have Z2 := frz_grown g6 r2 F2 (fun e => NGW.out _ e rfl)
  have hqb := g6.cell rb (fun e => NBW.out _ e.symm rfl)
  have O6 := Lib.hid o6; have G6 := Lib.hid g6; have B6 := Lib.hid b6
  clear o6 g6 b6 r2 r0 rb
  refine hK.out _ _ ⟨hqb, hq2, hq0⟩ ?_
  clear hK K'
  (try simp only [Act.put])
  refine wpAnyK_ready (rs := [11]) (by kernel_rfl) (by simp) (AllReadyK.cons (o := _) rfl (fun K' hK => ?_) AllReadyK.nil)
  go_simp
  refine hK.out _ _ ⟨hqb, hq2, hq0⟩ ?_
  clear hK K'
  (try simp only [Act.put])
  refine wpAnyK_ready (rs := [12]) (by kernel_rfl) (by simp) (AllReadyK.cons (o := _) rfl (fun K' hK => ?_) AllReadyK.nil)
  go_simp
  refine hK.out _ _ ⟨hqb, hq2, hq0⟩ ?_
  clear hK K'
  (try simp only [Act.put])
  refine wpAnyK_ready (rs := [13]) (by kernel_rfl) (by simp) (AllReadyK.last (o := _) (by kernel_rfl) rfl (fun K' hK => ?_) AllReadyK.nil)
  go_simp
  refine hK.out _ _ ?_
  clear hK K'
  refine wpAnyK_done (by kernel_rfl) ?_ _
  go_end0
  refine ⟨rfl, ?_⟩
  have hb6 := ((GB.refl w1 (fun i => (Value.slice WA m wc).ownBlock = some i)).grown G6.out (fun q e => .inl e)).blk (HGB.out.blk HB.out NGD.out) (fun e => NGW.out _ e rfl)
  obtain ⟨hb7, hv7, hj7⟩ := line_set hb6 (n := n) (k0 := 2) (v := v) (by omega) HV.out (.slice B' (m + k) cb')
  have g7 : GB w6 (w6.setCell ⟨gd, 1 + n * 6 + 2, none⟩ (.slice B' (m + k) cb')) (· = gd) := (GB.refl w6 (· = gd)).set gd _ _ (.inl rfl)
  have g06 : GB w w6 (fun i => i = gd ∨ D n i) := (HGB.out.more (fun i _ (e : i = gc) => .inr (by rw [e]; exact HDG.out))).grown G6.out (fun q e => .inl (.inr (NWA.out q e).1))
  have hln := HFIN.out w1 L' HCA.out HGB.out HSUB.out w6 B' (m + k) cb' (by rw [List.length_append, Hm.out, Hs.out]) O6.out (by rw [Hm.out]; exact G6.out) (by rw [Hm.out]; exact B6.out) _ (upd1 v 2 (.slice B' (m + k) cb')) gd g7 (fun e => (HD.out gd e).1 rfl) (blk_lt HB.out) (upd1_other _ _ (by omega)) (upd1_other _ _ (by omega)) (upd1_self _ _ _) (upd1_other _ _ (by omega)) (upd1_other _ _ (by omega)) (upd1_other _ _ (by omega))
  have g07 := g06.trans g7 (fun i e => .inl (.inl e))
  obtain ⟨a1, a2, a3⟩ := HGO.out _ _ _ _ _ g07 hb7 hv7 hj7 hln (Grow.ok (fun i hi => (HD.out i hi).2) g07.size)
  exact ⟨_, a1, a2, a3⟩
/-- what a line's hangup leaves -/
def HangG (w : World) (gd : Nat) (g : CoK) (C : Nat → Prop) (xb : Nat → Nat) (L : List AccE) (ks : KSt) (dr : Bool) (ls : Nat → LSt) (D : Nat → Nat → Prop) (n : Nat) (w' : World) : Prop :=
  ∃ D', DaeAt w' gd g C xb L ks dr (upd1 ls n (hangL (ls n))) D' ∧ GB w w' (DSet gd C D) ∧ ∀ i, DSet gd C D' i → DSet gd C D i ∨ w.heap.size ≤ i
set_option maxRecDepth 100000 in
set_option maxHeartbeats 4000000 in
theorem dhang (w : World) (gd : Nat) (g : CoK) (C : Nat → Prop) (xb : Nat → Nat) (L : List AccE) (ks : KSt) (dr : Bool) (ls : Nat → LSt) (D : Nat → Nat → Prop) (n : Nat) (s : CSt) (h : DaeAt w gd g C xb L ks dr ls D) (hn : n < 63) (hs : (ls n).cn = some s) (hl1 : (ls n).wr.length ≤ 1000000) (hl2 : s.wr.length ≤ 1000000) (hl3 : s.led.length ≤ 100000) (hkl : ∀ t ∈ s.led, t.key.length ≤ 5000) :
    Calls Tryz.prog 60 #[.pointer (some ⟨gd, 1 + n * 6, none⟩)] w fun e w' => e = .returned (.tuple #[]) ∧ HangG w gd g C xb L ks dr ls D n w' := by
  obtain ⟨cs, tt, v, hb, hv, hln, hD, -, -, -, hgo⟩ := h.lineA hn
  have hgd := blk_lt hb
  obtain ⟨WA, wc, base, gc, r, Lb, RO, v0, v2, hca, hDc, how, hwa, hfin⟩ := hln.taken (fun i hi => (hD i hi).2) hs
  have c0 : w.cell? ⟨gd, 1 + n * 6, none⟩ = some (ptrV gc) := (blk_cell hb _).trans (by rw [← v0]; exact hv 0 (by omega))
  have c2 : w.cell? ⟨gd, 1 + n * 6 + 2, none⟩ = some (.slice WA (ls n).wr.length wc) := (blk_cell hb _).trans (by rw [← v2]; exact hv 2 (by omega))
  have f2 := blk_frozen hb (1 + n * 6 + 2)
  have TK := Lib.hid (fun u (y : Ext w u) => ctake_any u base gc r Lb RO s (hca.ext y))
  obtain ⟨m, Hm⟩ : ∃ m, Hid ((ls n).wr.length = m) := ⟨_, rfl⟩
  obtain ⟨k, Hs⟩ : ∃ k, Hid (s.wr.length = k) := ⟨_, rfl⟩
  rw [Hm.out] at c2 how hl1 hwa
  rw [Hs.out] at TK hl2
  have HO := Lib.hid how; have C2 := Lib.hid c2
  have NGD := Lib.hid (show ¬ gd = gc from fun e => (hD gc hDc).1 e.symm)
  have NWA := Lib.hid hwa
  have NGW := Lib.hid (show ∀ q, (Value.slice WA m wc).ownBlock = some q → ¬ q = gd from fun q e => (hD q (hwa q e).1).1)
  have HB := Lib.hid hb; have HGO := Lib.hid hgo; have HFIN := Lib.hid hfin; have HV := Lib.hid hv; have HD := Lib.hid hD
  have HS := Lib.hid hs; have HDG := Lib.hid hDc
  clear h hgo hfin hv hD how hwa hca hb v0 v2 hln hs hDc
  go_enter Tryz.func60, Tryz.ntmps60
  go_upto_region 0 with fail
  go_cut [] (fun wd => TakeG w gd g C xb L ks dr ls D n wd)
  case first =>
    refine wp_region_k (fun u => u.cell? ⟨gd, 1 + n * 6 + 2, none⟩ = some (.slice WA m wc) ∧ u.cell? ⟨gd, 1 + n * 6, none⟩ = some (ptrV gc)) [13] (by kernel_rfl) ?_
    have hHeld := And.intro (drew_cell c2) (drew_cell c0)
    have XD : Ext w w.drew := (Ext.refl w).drew
    clear c0 c2
    generalize w.drew = U at XD hHeld ⊢
    refine wpAnyK_free (i := 0) (oi := _) (v := ?_) rfl (by kernel_rfl) (by kernel_rfl) (by kernel_rfl) (by kernel_rfl) (fun _ _ _ h => h) (Or.inl ⟨by rfl, ?_⟩) (HeldT.of hHeld) ?_
    rotate_left
    · intro w _; go_simp
      (try with_reducible rfl)
    (try simp only [Act.put])
    refine wpAnyK_free (i := 1) (oi := _) (v := ?_) rfl (by kernel_rfl) (by kernel_rfl) (by kernel_rfl) (by kernel_rfl) (fun _ _ _ h => h) (Or.inl ⟨by rfl, ?_⟩) (HeldT.of hHeld) ?_
    rotate_left
    · intro w _; go_simp
      (try with_reducible rfl)
    (try simp only [Act.put])
    refine wpAnyK_free (i := 2) (oi := _) (v := ?_) rfl (by kernel_rfl) (by kernel_rfl) (by kernel_rfl) (by kernel_rfl) (fun _ _ _ h => h) (Or.inl ⟨by rfl, ?_⟩) (HeldT.of hHeld) ?_
    rotate_left
    · intro w _; go_simp
      (try with_reducible rfl)
    (try simp only [Act.put])
    refine wpAnyK_free (i := 3) (oi := _) (v := ?_) rfl (by kernel_rfl) (by kernel_rfl) (by kernel_rfl) (by kernel_rfl) (fun _ _ _ h => h) (Or.inl ⟨by rfl, ?_⟩) (HeldT.of hHeld) ?_
    rotate_left
    · intro w _; go_simp
      (try with_reducible rfl)
    (try simp only [Act.put])
    refine wpAnyK_take 20 (i := 4) (oi := _) (v := ?_) rfl (by kernel_rfl) (by kernel_rfl) (by kernel_rfl) (by kernel_rfl) (by kernel_rfl) (fun _ _ _ h => h) (Or.inl ⟨by rfl, ?_⟩) (by assumption) ?_
    rotate_left
    · intro w hSw; (try dsimp only at hSw); go_simp
      (try with_reducible rfl)
    (try simp only [Act.put])
    refine wpAnyK_free (i := 5) (oi := _) (v := ?_) rfl (by kernel_rfl) (by kernel_rfl) (by kernel_rfl) (by kernel_rfl) (fun _ _ _ h => h) (Or.inl ⟨by rfl, ?_⟩) (HeldT.of hHeld) ?_
    rotate_left
    · intro w _; go_simp
      (try with_reducible rfl)
    (try simp only [Act.put])
    refine wpAnyK_free (i := 6) (oi := _) (v := ?_) rfl (by kernel_rfl) (by kernel_rfl) (by kernel_rfl) (by kernel_rfl) (fun _ _ _ h => h) (Or.inl ⟨by rfl, ?_⟩) (HeldT.of hHeld) ?_
    rotate_left
    · intro w _; go_simp
      (try with_reducible rfl)
    (try simp only [Act.put])
    refine wpAnyK_free (i := 7) (oi := _) (v := ?_) rfl (by kernel_rfl) (by kernel_rfl) (by kernel_rfl) (by kernel_rfl) (fun _ _ _ h => h) (Or.inl ⟨by rfl, ?_⟩) (HeldT.of hHeld) ?_
    rotate_left
    · intro w _; go_simp
      (try with_reducible rfl)
    (try simp only [Act.put])
    refine wpAnyK_take 20 (i := 8) (oi := _) (v := ?_) rfl (by kernel_rfl) (by kernel_rfl) (by kernel_rfl) (by kernel_rfl) (by kernel_rfl) (fun _ _ _ h => h) (Or.inl ⟨by rfl, ?_⟩) (by assumption) ?_
    rotate_left
    · intro w hSw; (try dsimp only at hSw); go_simp
      (try with_reducible rfl)
    (try simp only [Act.put])
    refine wpAnyK_ready (rs := [9]) (by kernel_rfl) (by simp) (AllReadyK.cons (o := _) rfl (fun K' hK => ?_) AllReadyK.nil)
    have d2 := hHeld.1
    have d0 := hHeld.2
    go_simp
    refine (TK.out U XD).mono ?_
    rintro e w1 ⟨TA, tc, L', rfl, hca, hgb, hsub, hown, -⟩
    have HCA := Lib.hid hca; have HGU := Lib.hid hgb; have HGB := Lib.hid (GB.back XD hgb); have HSUB := Lib.hid hsub; have HOWN := Lib.hid hown
    have r2 := hgb.cell d2 NGD.out
    have r0 := hgb.cell d0 NGD.out
    have F2 := frz_gb hgb d2 (frz_ext2 XD C2.out f2) NGD.out
    clear hca hgb hsub hown d0 d2 hHeld
    refine hK.out _ _ ⟨r2, r0⟩ ?_
    clear hK K'
    (try simp only [Act.put])
    refine wpAnyK_ready (rs := [10]) (by kernel_rfl) (by simp) (AllReadyK.cons (o := _) rfl (fun K' hK => ?_) AllReadyK.nil)
    refine step_app_u8 w1 rfl (.tmp 6) (.tmp 11) rfl 0 (by rfl) (HGB.out.own HO.out (fun q e => (NWA.out q e).2)) (by rfl) Hs.out (Rd.of_own HOWN.out) (by omega) (Nat.zero_le _) ?_
    intro B' cb' w6 o6 g6 b6
    have hq2 := g6.cell r2 (fun e => NGW.out _ e.symm rfl)
    have hq0 := g6.cell r0 (fun e => NGW.out _ e.symm rfl)
    have Z2 := frz_grown g6 r2 F2 (fun e => NGW.out _ e rfl)
    have O6 := Lib.hid o6; have G6 := Lib.hid g6; have B6 := Lib.hid b6
    clear o6 g6 b6 r2 r0
    refine hK.out _ _ ⟨hq2, hq0⟩ ?_
    clear hK K'
    (try simp only [Act.put])
    refine wpAnyK_ready (rs := [11]) (by kernel_rfl) (by simp) (AllReadyK.cons (o := _) rfl (fun K' hK => ?_) AllReadyK.nil)
    go_simp
    refine hK.out _ _ ⟨hq2, hq0⟩ ?_
    clear hK K'
    (try simp only [Act.put])
    refine wpAnyK_ready (rs := [12]) (by kernel_rfl) (by simp) (AllReadyK.cons (o := _) rfl (fun K' hK => ?_) AllReadyK.nil)
    go_simp
    refine hK.out _ _ ⟨hq2, hq0⟩ ?_
    clear hK K'
    (try simp only [Act.put])
    refine wpAnyK_ready (rs := [13]) (by kernel_rfl) (by simp) (AllReadyK.last (o := _) (by kernel_rfl) rfl (fun K' hK => ?_) AllReadyK.nil)
    go_simp
    refine hK.out _ _ ?_
    clear hK K'
    refine wpAnyK_done (by kernel_rfl) ?_ _
    have hb6 := ((GB.refl w1 (fun i => (Value.slice WA m wc).ownBlock = some i)).grown G6.out (fun q e => .inl e)).blk (HGB.out.blk HB.out NGD.out) (fun e => NGW.out _ e rfl)
    obtain ⟨hb7, hv7, hj7⟩ := line_set hb6 (n := n) (k0 := 2) (v := v) (by omega) HV.out (.slice B' (m + k) cb')
    have g7 : GB w6 (w6.setCell ⟨gd, 1 + n * 6 + 2, none⟩ (.slice B' (m + k) cb')) (· = gd) := (GB.refl w6 (· = gd)).set gd _ _ (.inl rfl)
    have g06 : GB w w6 (fun i => i = gd ∨ D n i) := (HGB.out.more (fun i _ (e : i = gc) => .inr (by rw [e]; exact HDG.out))).grown G6.out (fun q e => .inl (.inr (NWA.out q e).1))
    have hln := HFIN.out w1 L' HCA.out HGB.out HSUB.out w6 B' (m + k) cb' (by rw [List.length_append, Hm.out, Hs.out]) O6.out (by rw [Hm.out]; exact G6.out) (by rw [Hm.out]; exact B6.out) _ (upd1 v 2 (.slice B' (m + k) cb')) gd g7 (fun e => (HD.out gd e).1 rfl) (blk_lt HB.out) (upd1_other _ _ (by omega)) (upd1_other _ _ (by omega)) (upd1_self _ _ _) (upd1_other _ _ (by omega)) (upd1_other _ _ (by omega)) (upd1_other _ _ (by omega))
    have g07 := g06.trans g7 (fun i e => .inl (.inl e))
    obtain ⟨a1, a2, a3⟩ := HGO.out _ _ _ _ _ g07 hb7 hv7 hj7 hln (Grow.ok (fun i hi => (HD.out i hi).2) g07.size)
    go_wp2_with fail
    go_meet
    exact ⟨_, a1, a2, a3⟩
  case rest =>
    obtain ⟨D', h1, g1, n1⟩ := hcut
    obtain ⟨base, gc, r, Lb, RO, c0, hcn, ngd, -, -, -, hcg⟩ := h1.conn hn (s := { s with wr := [] }) (by rw [upd1_self, takeL_some HS.out])
    have hcb := hcn.bounds.1
    have HU := Lib.hid (changup_any wc base gc r Lb RO { s with wr := [] } hcn hl3 hkl)
    have HCG := Lib.hid hcg; have G1 := Lib.hid g1; have N1 := Lib.hid n1
    clear h1 g1 n1 hcn hcg
    go_wp2_with fail
    refine HU.out.mono ?_
    rintro e w2 ⟨A2, c2, k2, L2, rfl, h2, -, x2, y2⟩
    obtain ⟨b1, b2, b3⟩ := HCG.out w2 (hangS { s with wr := [] }) ⟨L2, RO, h2, x2.more (fun i _ (e : i = gc) => by rw [e]; exact hcb), fun b e => .inl (y2 b e), fun b e => .inl e⟩
    rw [upd1_upd1, upd1_self] at b1
    obtain ⟨cs2, t2, v2, hb2, hv2, hln2, hD2, -, -, -, hgo2⟩ := b1.lineA hn
    rw [upd1_self, upd1_self] at hln2
    rw [upd1_self] at hD2 hgo2
    obtain ⟨hb8, hv8, hj8⟩ := line_set hb2 (n := n) (k0 := 1) (v := v2) (by omega) hv2 (.int .i64 2)
    have q1 : w2.cell? ⟨gd, 1 + n * 6 + 1, none⟩ = some (v2 1) := (blk_cell hb2 _).trans (hv2 1 (by omega))
    have q1f := blk_frozen hb2 (1 + n * 6 + 1)
    have HGO2 := Lib.hid hgo2; have HD2 := Lib.hid hD2; have HLN2 := Lib.hid hln2; have HB8 := Lib.hid hb8; have HV8 := Lib.hid hv8; have HJ8 := Lib.hid hj8; have B2 := Lib.hid b2; have B3 := Lib.hid b3
    have HB2 := Lib.hid hb2
    clear hgo2 hD2 hln2 hb8 hv8 hj8 b1 b2 b3 hb2 hv2 h2 x2 y2
    go_wp2_with fail
    go_end0
    refine ⟨rfl, ?_⟩
    have g8 : GB w2 (w2.setCell ⟨gd, 1 + n * 6 + 1, none⟩ (.int .i64 2)) (· = gd) := (GB.refl w2 (· = gd)).set gd _ _ (.inl rfl)
    have hln := (HLN2.out.gb g8 (fun i hi e => (HD2.out i hi).1 e)).state (v' := upd1 v2 1 (.int .i64 2)) (st := 2) (upd1_other _ _ (by omega)) (upd1_self _ _ _) (upd1_other _ _ (by omega)) (upd1_other _ _ (by omega)) (upd1_other _ _ (by omega)) (upd1_other _ _ (by omega))
    obtain ⟨a1, a2, a3⟩ := HGO2.out _ _ _ _ _ (g8.more (fun i _ e => .inl e)) HB8.out HV8.out HJ8.out hln (fun i hi => ⟨.inl hi, by simpa using (HD2.out i hi).2⟩)
    rw [upd1_upd1, hangL_some HS.out] at a1
    refine ⟨_, a1, ?_, fun i hi => ?_⟩
    · exact (G1.out.trans B2.out N1.out).trans a2 (fun i hi => (B3.out i hi).elim (N1.out i) (fun e => .inr (Nat.le_trans G1.out.size e)))
    · rcases a3 i hi with e | e
      · rcases B3.out i e with e | e
        · exact N1.out i e
        · exact .inr (Nat.le_trans G1.out.size e)
      · exact .inr (Nat.le_trans (Nat.le_trans G1.out.size B2.out.size) e)
end

section
open Go.RowKit

set_option maxRecDepth 100000 in
theorem dacc_on (w : World) (gd : Nat) (g : CoK) (C : Nat → Prop) (xb : Nat → Nat) (L : List AccE) (ks : KSt) (dr : Bool) (ls : Nat → LSt) (D : Nat → Nat → Prop) (n : Nat) (h : DaeAt w gd g C xb L ks dr ls D) (hn : n < 63) (hL : L.length ≤ 100000) (ok : KOk g.P ks n) (hk : (kStep g.P g.room ks n).2 = none) :
    Calls Tryz.prog 102 #[ptrV gd, .int .i64 (n : Int), .pointer (some ⟨gd, 1 + n * 6, none⟩)] w fun e w' => e = .returned (.tuple #[]) ∧ DaeGo w gd g C D (L.length + 1) (kStep g.P g.room ks n).1 dr ls w' := by
  obtain ⟨h1, c0, hgd, hgo⟩ := h.core
  have ST := Lib.hid (cor_step w g (DO gd D) C xb L ks n h1 hL (by omega) ok)
  unfold CStepR at ST
  rw [hk] at ST
  have HG := Lib.hid hgo
  clear h h1 hgo
  go_enter Tryz.func102, Tryz.ntmps102
  go_wp2_with fail
  refine ST.out.mono ?_
  rintro e w1 ⟨L', C', hl, rfl, hm⟩
  have HM := Lib.hid hm
  clear hm
  go_wp2_with fail
  go_end0
  obtain ⟨a1, a2, a3⟩ := HG.out _ _ _ _ _ HM.out
  exact ⟨rfl, C', xb, L', D, hl, a1.ext ((Ext.refl w1).alloc _), a2.alloc _, a3⟩
set_option maxRecDepth 100000 in
set_option maxHeartbeats 1000000 in
theorem dacc_rep (w : World) (gd : Nat) (g : CoK) (C : Nat → Prop) (xb : Nat → Nat) (L : List AccE) (ks : KSt) (dr : Bool) (ls : Nat → LSt) (D : Nat → Nat → Prop) (n : Nat) (h : DaeAt w gd g C xb L ks dr ls D) (hn : n < 63) (hL : L.length ≤ 100000) (ok : KOk g.P ks n) (rp : KRep) (hk : (kStep g.P g.room ks n).2 = some rp)
    (hrel : (ls n).rel = false) (s : CSt) (hs : (ls n).cn = some s) (hi : CInv s) (hwr : s.wr.length ≤ 1000000) (hled : s.led.length ≤ 100000 - 1) (c : CCall) (ho : s.out = some c) (hrp : RepOk rp) :
    Calls Tryz.prog 102 #[ptrV gd, .int .i64 (n : Int), .pointer (some ⟨gd, 1 + n * 6, none⟩)] w fun e w' => e = .returned (.tuple #[]) ∧ DaeGo w gd g C D (L.length + 1) (kStep g.P g.room ks n).1 dr (upd1 ls n (repliedL (ls n) rp)) w' := by
  obtain ⟨h1, c0, hgd, hgo⟩ := h.core
  have ST := Lib.hid (cor_step w g (DO gd D) C xb L ks n h1 hL (by omega) ok)
  unfold CStepR at ST
  rw [hk] at ST
  dsimp only [Option.isSome, Option.getD] at ST
  have HG := Lib.hid hgo
  clear h h1 hgo
  obtain ⟨s2, Hs2⟩ : ∃ s2, Hid ((kStep g.P g.room ks n).1 = s2) := ⟨_, rfl⟩
  rw [Hs2.out] at ST ⊢
  go_enter Tryz.func102, Tryz.ntmps102
  go_wp2_with fail
  refine ST.out.mono ?_
  rintro e w1 ⟨L', C', hl, rfl, hm⟩
  obtain ⟨a1, a2, a3⟩ := HG.out _ _ _ _ _ hm
  obtain ⟨W, hW⟩ : ∃ W, (w1.alloc (.cells #[.bool true, .int .i64 (rp.er : Int), .bool rp.granted, .int .i64 rp.left, .int .i64 rp.wait, .int .i64 rp.ser, .int .i64 rp.now] 41)) = W := ⟨_, rfl⟩
  have xW : Ext w1 W := by rw [← hW]; exact (Ext.refl w1).alloc _
  have K0 := Lib.hid (show W.heap[w1.heap.size]? = some (.cells #[.bool true, .int .i64 (rp.er : Int), .bool rp.granted, .int .i64 rp.left, .int .i64 rp.wait, .int .i64 rp.ser, .int .i64 rp.now] 41 (0, 0)) by rw [← hW]; exact blk_new w1 _)
  have A2 := Lib.hid a2; have A3 := Lib.hid a3; have XW := Lib.hid xW
  obtain ⟨base, gc, r, Lb, RO, l0, hc, ngd, hlt, -, -, hcg⟩ := a1.conn hn hs
  obtain ⟨cs, t, v, hb, hv, hln, -⟩ := a1.lineA hn
  obtain ⟨-, -, -, -, -, -, -, -, -, v3, -⟩ := hln
  rw [hrel] at v3
  have l3 : w1.cell? ⟨gd, 1 + n * 6 + 3, none⟩ = some (.bool false) := (blk_cell hb _).trans (by rw [← v3]; exact hv 3 (by omega))
  have RP := Lib.hid (fun u (y : Ext W u) => creply_call u base gc r Lb RO s (hc.ext (xW.trans y)) hi hwr hled c ho rp.er hrp.1 rp.granted rp.left rp.wait rp.ser rp.now)
  have HCG := Lib.hid hcg; have HR := Lib.hid (repIs_by hrp); have HS := Lib.hid hs; have HO := Lib.hid ho; have HL := Lib.hid hl
  clear hm a1 a2 a3 hc hcg hb hv v3 hi hwr hled hrp hrel hl hs ho
  have p3 := ext_cell xW l3
  have e0 : W.cell? ⟨w1.heap.size, 0, none⟩ = some (.bool true) := blk_cell K0.out 0
  have e1 : W.cell? ⟨w1.heap.size, 1, none⟩ = some (.int .i64 (rp.er : Int)) := blk_cell K0.out 1
  have e2 : W.cell? ⟨w1.heap.size, 2, none⟩ = some (.bool rp.granted) := blk_cell K0.out 2
  have e3 : W.cell? ⟨w1.heap.size, 3, none⟩ = some (.int .i64 rp.left) := blk_cell K0.out 3
  have e4 : W.cell? ⟨w1.heap.size, 4, none⟩ = some (.int .i64 rp.wait) := blk_cell K0.out 4
  have e5 : W.cell? ⟨w1.heap.size, 5, none⟩ = some (.int .i64 rp.ser) := blk_cell K0.out 5
  have e6 : W.cell? ⟨w1.heap.size, 6, none⟩ = some (.int .i64 rp.now) := blk_cell K0.out 6
  have NL := Lib.hid (show ¬ some w1.heap.size ∈ Lb from fun e => Nat.lt_irrefl _ (hlt _ e)); have NG := Lib.hid ngd
  have l0 := ext_cell xW l0
  clear xW hlt ngd
  go_upto_region 1 with fail
  (try rw [hW])
  clear hW
  clear l3 c0 e0 p3
  go_region_held3 (fun w' => w'.cell? ⟨gd, 1 + n * 6, none⟩ = some (ptrV gc) ∧ w'.cell? ⟨w1.heap.size, 1, none⟩ = some (.int .i64 (rp.er : Int)) ∧ w'.cell? ⟨w1.heap.size, 2, none⟩ = some (.bool rp.granted) ∧ w'.cell? ⟨w1.heap.size, 3, none⟩ = some (.int .i64 rp.left) ∧ w'.cell? ⟨w1.heap.size, 4, none⟩ = some (.int .i64 rp.wait) ∧ w'.cell? ⟨w1.heap.size, 5, none⟩ = some (.int .i64 rp.ser) ∧ w'.cell? ⟨w1.heap.size, 6, none⟩ = some (.int .i64 rp.now))
    (((try go_split_ands); exact ⟨(by first | (with_reducible exact drew_cell l0) | (with_reducible exact l0) | (with_reducible exact tl0) | (with_reducible exact drew_cell tl0) | (with_reducible assumption) | (with_reducible exact cell_past tl0 _) | (with_reducible exact drew_cell (cell_past l0 _))), (by first | (with_reducible exact drew_cell e1) | (with_reducible exact e1) | (with_reducible exact te1) | (with_reducible exact drew_cell te1) | (with_reducible assumption) | (with_reducible exact cell_past te1 _) | (with_reducible exact drew_cell (cell_past e1 _))), (by first | (with_reducible exact drew_cell e2) | (with_reducible exact e2) | (with_reducible exact te2) | (with_reducible exact drew_cell te2) | (with_reducible assumption) | (with_reducible exact cell_past te2 _) | (with_reducible exact drew_cell (cell_past e2 _))), (by first | (with_reducible exact drew_cell e3) | (with_reducible exact e3) | (with_reducible exact te3) | (with_reducible exact drew_cell te3) | (with_reducible assumption) | (with_reducible exact cell_past te3 _) | (with_reducible exact drew_cell (cell_past e3 _))), (by first | (with_reducible exact drew_cell e4) | (with_reducible exact e4) | (with_reducible exact te4) | (with_reducible exact drew_cell te4) | (with_reducible assumption) | (with_reducible exact cell_past te4 _) | (with_reducible exact drew_cell (cell_past e4 _))), (by first | (with_reducible exact drew_cell e5) | (with_reducible exact e5) | (with_reducible exact te5) | (with_reducible exact drew_cell te5) | (with_reducible assumption) | (with_reducible exact cell_past te5 _) | (with_reducible exact drew_cell (cell_past e5 _))), (by first | (with_reducible exact drew_cell e6) | (with_reducible exact e6) | (with_reducible exact te6) | (with_reducible exact drew_cell te6) | (with_reducible assumption) | (with_reducible exact cell_past te6 _) | (with_reducible exact drew_cell (cell_past e6 _)))⟩))
    ((go_at_call 104; (with_reducible refine (RP.out _ (by first | (with_reducible exact Ext.refl _) | (with_reducible exact (Ext.refl _).drew))).mono ?_); rintro e w2 ⟨q, B, hri, rfl, hgo2⟩; have HRI := Lib.hid hri; have HGO := Lib.hid (ConnGo.back (XW.out.trans (by first | (with_reducible exact Ext.refl _) | (with_reducible exact (Ext.refl _).drew))) hgo2); obtain ⟨_, _, _, gg, _⟩ := hgo2; have tl0 := gg.cell (by first | (with_reducible exact l0) | (with_reducible exact drew_cell l0)) NG.out; have te1 := gg.cell (by first | (with_reducible exact e1) | (with_reducible exact drew_cell e1)) NL.out; have te2 := gg.cell (by first | (with_reducible exact e2) | (with_reducible exact drew_cell e2)) NL.out; have te3 := gg.cell (by first | (with_reducible exact e3) | (with_reducible exact drew_cell e3)) NL.out; have te4 := gg.cell (by first | (with_reducible exact e4) | (with_reducible exact drew_cell e4)) NL.out; have te5 := gg.cell (by first | (with_reducible exact e5) | (with_reducible exact drew_cell e5)) NL.out; have te6 := gg.cell (by first | (with_reducible exact e6) | (with_reducible exact drew_cell e6)) NL.out; clear hri gg))
  all_goals
    go_wp2_with fail
    go_end0
    refine ⟨rfl, ?_⟩
    obtain ⟨rfl, rfl⟩ := rep_one rfl HRI.out HR.out
    have hgo := HGO.out
    rw [if_pos rfl] at hgo
    obtain ⟨b1, b2, b3⟩ := HCG.out _ _ hgo
    have e9 : repliedL (ls n) rp = { ls n with cn := some (repliedS s c (rp.er : Int) rp.ser (repBy rp)) } := by
      unfold repliedL
      rw [HS.out]
      dsimp only
      rw [HO.out]
    rw [e9]
    exact ⟨C', xb, L', _, HL.out, b1, A2.out.trans b2 A3.out, fun i hi => (b3 i hi).elim (A3.out i) (fun e => .inr (Nat.le_trans A2.out.size e))⟩
theorem toksV_cons (k : KRef) (t : CTok) (ks : List KRef) (l : List CTok) : toksV (k :: ks) (t :: l) = tokC k t ++ toksV ks l := by
  unfold toksV
  rw [List.zip_cons_cons, List.flatMap_cons]
theorem LnAt.tail {w : World} {D : Nat → Prop} {v : Nat → Value} {l : LSt} (h : LnAt w D v l) {t : CTok} {ts : List CTok} (ht : l.toks = t :: ts) :
    ∃ (TA : Option Addr) (tc : Nat), v 4 = .slice TA (ts.length + 1) tc ∧ ts.length + 1 ≤ tc ∧ ∀ (A' : Option Addr) (d : Nat), (∀ (vs : List Value), vs.length = (ts.length + 1) * 3 → Rd w TA vs → Rd w A' (vs.drop (1 * 3))) → (∀ a, A' = some a → ∃ a', TA = some a' ∧ a'.block = a.block) → tc = d + 1 →
      ∀ (v' : Nat → Value) (rel : Bool), v' 0 = v 0 → v' 1 = v 1 → v' 2 = v 2 → v' 3 = .bool rel → v' 4 = .slice A' ts.length d → v' 5 = v 5 → LnAt w D v' { l with toks := ts, rel := rel } := by
  obtain ⟨WA, TA, wc, tc, tk, Lb, T, h1, h2, h3, h4, h5, h6, h7, h8, h9, h10, h11, h12, h13, h14⟩ := h
  rw [ht] at h4 h8 h9
  obtain ⟨h9a, h9b, h9c⟩ := h9
  cases tk with
  | nil => simp at h9a
  | cons k ks =>
    have hkl : ks.length = ts.length := by simpa using h9a
    refine ⟨TA, tc, h4, h8, fun A' d hr hb hd v' rel q0 q1 q2 q3 q4 q5 => ?_⟩
    have hrd := hr (toksV (k :: ks) (t :: ts)) (by unfold toksV; rw [zipV_len tokC 3 (fun _ _ => rfl) _ _ h9a]; rfl) h9b
    rw [toksV_cons] at hrd
    refine ⟨WA, A', wc, d, ks, Lb, T, q1.trans h1, q2.trans h2, q3, q4, q5.trans h5, h6, h7, by show ts.length ≤ d; simp only [List.length_cons] at h8; omega, ⟨hkl, hrd, fun p hp => h9c p (by rw [List.zip_cons_cons]; exact List.mem_cons_of_mem _ hp)⟩, fun a ha => ?_, fun k9 hk9 => h11 k9 (List.mem_cons_of_mem _ hk9), h12, h13, by rw [q0]; exact h14⟩
    obtain ⟨a', e1, e2⟩ := hb a ha
    rw [← e2]
    exact h10 a' e1
set_option maxRecDepth 100000 in
set_option maxHeartbeats 1000000 in
theorem dacc_rel (w : World) (gd : Nat) (g : CoK) (C : Nat → Prop) (xb : Nat → Nat) (L : List AccE) (ks : KSt) (dr : Bool) (ls : Nat → LSt) (D : Nat → Nat → Prop) (n : Nat) (h : DaeAt w gd g C xb L ks dr ls D) (hn : n < 63) (hL : L.length ≤ 100000) (ok : KOk g.P ks n) (rp : KRep) (hk : (kStep g.P g.room ks n).2 = some rp)
    (hrel : (ls n).rel = true) (t : CTok) (ts : List CTok) (hts : (ls n).toks = t :: ts) (htl : ts.length ≤ 100000) :
    Calls Tryz.prog 102 #[ptrV gd, .int .i64 (n : Int), .pointer (some ⟨gd, 1 + n * 6, none⟩)] w fun e w' => e = .returned (.tuple #[]) ∧ DaeGo w gd g C D (L.length + 1) (kStep g.P g.room ks n).1 dr (upd1 ls n { ls n with toks := ts, rel := false }) w' := by
  obtain ⟨h1, c0, hgd, hgo⟩ := h.core
  have ST := Lib.hid (cor_step w g (DO gd D) C xb L ks n h1 hL (by omega) ok)
  unfold CStepR at ST
  rw [hk] at ST
  dsimp only [Option.isSome, Option.getD] at ST
  have HG := Lib.hid hgo
  clear h h1 hgo
  obtain ⟨s2, Hs2⟩ : ∃ s2, Hid ((kStep g.P g.room ks n).1 = s2) := ⟨_, rfl⟩
  rw [Hs2.out] at ST ⊢
  go_enter Tryz.func102, Tryz.ntmps102
  go_wp2_with fail
  refine ST.out.mono ?_
  rintro e w1 ⟨L', C', hl, rfl, hm⟩
  obtain ⟨a1, a2, a3⟩ := HG.out _ _ _ _ _ hm
  obtain ⟨W, hW⟩ : ∃ W, (w1.alloc (.cells #[.bool true, .int .i64 (rp.er : Int), .bool rp.granted, .int .i64 rp.left, .int .i64 rp.wait, .int .i64 rp.ser, .int .i64 rp.now] 41)) = W := ⟨_, rfl⟩
  have xW : Ext w1 W := by rw [← hW]; exact (Ext.refl w1).alloc _
  have K0 := Lib.hid (show W.heap[w1.heap.size]? = some (.cells #[.bool true, .int .i64 (rp.er : Int), .bool rp.granted, .int .i64 rp.left, .int .i64 rp.wait, .int .i64 rp.ser, .int .i64 rp.now] 41 (0, 0)) by rw [← hW]; exact blk_new w1 _)
  have A2 := Lib.hid a2; have A3 := Lib.hid a3; have XW := Lib.hid xW
  obtain ⟨cs, tt, v, hb, hv, hln, hD, -, -, -, hfin⟩ := (a1.ext xW).lineA hn
  obtain ⟨-, -, -, -, -, -, -, -, -, v3, -⟩ := id hln
  obtain ⟨TA, tc, v4, htc, htl2⟩ := hln.tail hts
  rw [hrel] at v3
  obtain ⟨k, Hk⟩ : ∃ k, Hid (ts.length = k) := ⟨_, rfl⟩
  rw [Hk.out] at v4 htc htl2 htl
  obtain ⟨k1, Hk1⟩ : ∃ k1, Hid (k + 1 = k1) := ⟨_, rfl⟩
  rw [Hk1.out] at v4
  obtain ⟨d, rfl⟩ : ∃ d, tc = d + 1 := ⟨tc - 1, by omega⟩
  obtain ⟨d1, Hd1⟩ : ∃ d1, Hid (d + 1 = d1) := ⟨_, rfl⟩
  obtain ⟨A', hsl, hrd, hblk, -⟩ := slice_from_s (P := Tryz.prog) (s := 3) Tryz.underlying117 tk_size (A := TA) (n := k1) (c := d1) (m := k) (d := d) 1 (ki := 1) rfl (by have := Hk1.out; have := Hd1.out; omega) Hk1.out.symm Hd1.out.symm
  rw [Hd1.out] at v4
  have l3 : W.cell? ⟨gd, 1 + n * 6 + 3, none⟩ = some (.bool true) := (blk_cell hb _).trans (by rw [← v3]; exact hv 3 (by omega))
  have l4 : W.cell? ⟨gd, 1 + n * 6 + 4, none⟩ = some (.slice TA k1 d1) := (blk_cell hb _).trans (by rw [← v4]; exact hv 4 (by omega))
  have z3 := blk_frozen hb (1 + n * 6 + 3); have z4 := blk_frozen hb (1 + n * 6 + 4)
  have hle : ¬ ((k1 : Nat) : Int) < 1 := by have := Hk1.out; omega
  have HF := Lib.hid hfin; have HB := Lib.hid hb; have HV := Lib.hid hv; have HD := Lib.hid hD; have HTL := Lib.hid htl2; have HRD := Lib.hid hrd; have HBL := Lib.hid hblk; have HL := Lib.hid hl
  clear hm a1 a2 a3 hfin hb hv hD hln htl2 hrd hblk v3 v4 hl htl htc
  have e0 : W.cell? ⟨w1.heap.size, 0, none⟩ = some (.bool true) := blk_cell K0.out 0
  clear xW
  go_upto_region 4 with fail
  (try rw [hW])
  clear hW
  go_region
  go_wp2_with fail
  go_end0
  refine ⟨rfl, ?_⟩
  obtain ⟨b1, v1, j1⟩ := line_set HB.out (n := n) (k0 := 3) (v := v) (by omega) HV.out (.bool false)
  obtain ⟨b2, v2, j2⟩ := line_set b1 (n := n) (k0 := 4) (by omega) v1 (.slice A' k d)
  have g2 : GB W ((W.setCell ⟨gd, 1 + n * 6 + 3, none⟩ (.bool false)).setCell ⟨gd, 1 + n * 6 + 4, none⟩ (.slice A' k d)) (· = gd) := ((GB.refl W (· = gd)).set gd _ _ (.inl rfl)).set gd _ _ (.inl rfl)
  have hln := (HTL.out A' d (fun vs hv9 hr9 => HRD.out W vs (by rw [← Hk1.out]; exact hv9) hr9) HBL.out rfl (upd1 (upd1 v 3 (.bool false)) 4 (.slice A' k d)) false (by rw [upd1_other _ _ (by omega), upd1_other _ _ (by omega)]) (by rw [upd1_other _ _ (by omega), upd1_other _ _ (by omega)]) (by rw [upd1_other _ _ (by omega), upd1_other _ _ (by omega)]) (by rw [upd1_other _ _ (by omega), upd1_self]) (by rw [upd1_self]) (by rw [upd1_other _ _ (by omega), upd1_other _ _ (by omega)])).gb g2 (fun i hi e => (HD.out i hi).1 e)
  obtain ⟨a1, a2, a3⟩ := HF.out _ _ _ _ _ (g2.more (fun i _ e => .inl e)) b2 v2 (fun j hj => (j2 j hj).trans (j1 j hj)) hln (fun i hi => ⟨.inl hi, by simpa using (HD.out i hi).2⟩)
  exact ⟨C', xb, L', _, HL.out, a1.ext (Ext.refl _).drew, A2.out.trans (GB.back XW.out a2.drew) A3.out, fun i hi => (a3 i hi).elim (A3.out i) (fun e => .inr (Nat.le_trans (Nat.le_trans A2.out.size XW.out.size) e))⟩
end

section
open Go.RowKit

theorem dis_ok (n : Nat) (w : World) (h : n < 63) : Calls Tryz.prog 54 #[.int .i64 (n : Int)] w fun e w' => e = .returned (.bool true) ∧ w = w' := by
  have h1 : (0 : Int) ≤ (n : Int) := by omega
  have h2 : (n : Int) < 63 := by omega
  go_enter Tryz.func54, Tryz.ntmps54
  go_wp2_with fail
  go_ret
  exact ⟨rfl, rfl⟩
set_option maxRecDepth 100000 in
theorem dline_on (w : World) (gd : Nat) (g : CoK) (C : Nat → Prop) (xb : Nat → Nat) (L : List AccE) (ks : KSt) (dr : Bool) (ls : Nat → LSt) (D : Nat → Nat → Prop) (n : Nat) (h : DaeAt w gd g C xb L ks dr ls D) (hn : n < 63) (hst : (ls n).st ≠ 0) :
    Calls Tryz.prog 56 #[ptrV gd, .int .i64 (n : Int)] w fun e w' => e = .returned (.pointer (some ⟨gd, 1 + n * 6, none⟩)) ∧ w = w' := by
  obtain ⟨cs, t, v, hb, hv, hln, -⟩ := h.lineA hn
  obtain ⟨-, -, -, -, -, -, -, v1, -⟩ := hln
  obtain ⟨st, Hst⟩ : ∃ st, Hid ((ls n).st = st) := ⟨_, rfl⟩
  rw [Hst.out] at v1 hst
  have c1 : w.cell? ⟨gd, 1 + n * 6 + 1, none⟩ = some (.int .i64 (st : Int)) := (blk_cell hb _).trans (by rw [← v1]; exact hv 1 (by omega))
  have IS := Lib.hid (dis_ok n w hn)
  have b1 : ((st : Int) == 0) = false := by rw [beq_eq_false_iff_ne]; omega
  have hi : (0 : Int) ≤ (n : Int) ∧ (n : Int) < ((63 : Nat) : Int) := ⟨by omega, by omega⟩
  have hi2 : (0 : Int) ≤ (n : Int) ∧ (n : Int) < 63 := ⟨by omega, by omega⟩
  clear h hb hv v1
  go_enter Tryz.func56, Tryz.ntmps56
  go_wp2_with fail
  refine IS.out.mono ?_
  rintro e w1 ⟨rfl, rfl⟩
  go_wp2_with fail
  go_ret
  exact ⟨rfl, rfl⟩
set_option maxRecDepth 100000 in
theorem dline_off (w : World) (gd : Nat) (g : CoK) (C : Nat → Prop) (xb : Nat → Nat) (L : List AccE) (ks : KSt) (dr : Bool) (ls : Nat → LSt) (D : Nat → Nat → Prop) (n : Nat) (h : DaeAt w gd g C xb L ks dr ls D) (hn : n < 63) (hst : (ls n).st = 0) :
    Calls Tryz.prog 56 #[ptrV gd, .int .i64 (n : Int)] w fun e w' => e = .returned (.pointer none) ∧ w = w' := by
  obtain ⟨cs, t, v, hb, hv, hln, -⟩ := h.lineA hn
  obtain ⟨-, -, -, -, -, -, -, v1, -⟩ := hln
  rw [hst] at v1
  have c1 : w.cell? ⟨gd, 1 + n * 6 + 1, none⟩ = some (.int .i64 0) := (blk_cell hb _).trans (by have := hv 1 (by omega); rw [v1] at this; exact this)
  have IS := Lib.hid (dis_ok n w hn)
  have hi2 : (0 : Int) ≤ (n : Int) ∧ (n : Int) < 63 := ⟨by omega, by omega⟩
  clear h hb hv v1
  go_enter Tryz.func56, Tryz.ntmps56
  go_wp2_with fail
  refine IS.out.mono ?_
  rintro e w1 ⟨rfl, rfl⟩
  go_wp2_with fail
  go_ret
  exact ⟨rfl, rfl⟩
set_option maxRecDepth 100000 in
theorem dstate_any (w : World) (gd : Nat) (g : CoK) (C : Nat → Prop) (xb : Nat → Nat) (L : List AccE) (ks : KSt) (dr : Bool) (ls : Nat → LSt) (D : Nat → Nat → Prop) (n : Nat) (h : DaeAt w gd g C xb L ks dr ls D) (hn : n < 63) :
    Calls Tryz.prog 23 #[ptrV gd, .int .i64 (n : Int)] w fun e w' => e = .returned (.int .i64 ((ls n).st : Int)) ∧ w = w' := by
  by_cases hst : (ls n).st = 0
  · have LN := Lib.hid (dline_off w gd g C xb L ks dr ls D n h hn hst)
    rw [hst]
    clear h
    go_enter Tryz.func23, Tryz.ntmps23
    go_wp2_with fail
    refine LN.out.mono ?_
    rintro e w1 ⟨rfl, rfl⟩
    go_wp2_with fail
    go_ret
    exact ⟨rfl, rfl⟩
  · have LN := Lib.hid (dline_on w gd g C xb L ks dr ls D n h hn hst)
    obtain ⟨cs, t, v, hb, hv, hln, -⟩ := h.lineA hn
    obtain ⟨-, -, -, -, -, -, -, v1, -⟩ := hln
    obtain ⟨st, Hst⟩ : ∃ st, Hid ((ls n).st = st) := ⟨_, rfl⟩
    rw [Hst.out] at v1 ⊢
    have c1 : w.cell? ⟨gd, 1 + n * 6 + 1, none⟩ = some (.int .i64 (st : Int)) := (blk_cell hb _).trans (by rw [← v1]; exact hv 1 (by omega))
    clear h hb hv v1
    go_enter Tryz.func23, Tryz.ntmps23
    go_wp2_with fail
    refine LN.out.mono ?_
    rintro e w1 ⟨rfl, rfl⟩
    go_wp2_with fail
    go_ret
    exact ⟨rfl, rfl⟩
set_option maxRecDepth 100000 in
theorem dout_any (w : World) (gd : Nat) (g : CoK) (C : Nat → Prop) (xb : Nat → Nat) (L : List AccE) (ks : KSt) (dr : Bool) (ls : Nat → LSt) (D : Nat → Nat → Prop) (n m : Nat) (h : DaeAt w gd g C xb L ks dr ls D) (hn : n < 63) (hm : (ls n).wr.length = m) (hm2 : m ≤ 1000000) :
    Calls Tryz.prog 25 #[ptrV gd, .int .i64 (n : Int)] w fun e w' => ∃ A c, e = .returned (.slice A m c) ∧ w'.ownsRow w.heap.size 5 1 (.slice A m c) m (vals .u8 (ls n).wr) ∧ Ext w w' := by
  obtain ⟨cs, t, v, hb, hv, hln, -⟩ := h.lineA hn
  obtain ⟨WA, -, wc, -, -, -, -, -, v2, -, -, -, ho, -⟩ := hln
  rw [hm] at v2 ho
  have c2 : w.cell? ⟨gd, 1 + n * 6 + 2, none⟩ = some (.slice WA m wc) := (blk_cell hb _).trans (by rw [← v2]; exact hv 2 (by omega))
  have CL := Lib.hid (kbclone_any WA m wc (ls n).wr w hm (by omega) (Rd.of_own ho))
  have IS := Lib.hid (dis_ok n w hn)
  have hi2 : (0 : Int) ≤ (n : Int) ∧ (n : Int) < 63 := ⟨by omega, by omega⟩
  have Hm := Lib.hid hm
  clear h hb hv v2 ho hm
  go_enter Tryz.func25, Tryz.ntmps25
  go_wp2_with fail
  refine IS.out.mono ?_
  rintro e w1 ⟨rfl, rfl⟩
  go_wp2_with fail
  refine CL.out.mono ?_
  rintro e w1 ⟨A, c, rfl, ho, hx⟩
  have HO := Lib.hid ho; have HX := Lib.hid hx
  clear ho hx
  go_wp2_with fail
  go_ret
  rw [← Hm.out]
  exact ⟨A, c, rfl, HO.out, HX.out⟩
set_option maxRecDepth 100000 in
theorem dledger_any (w : World) (gd : Nat) (g : CoK) (C : Nat → Prop) (xb : Nat → Nat) (L : List AccE) (ks : KSt) (dr : Bool) (ls : Nat → LSt) (D : Nat → Nat → Prop) (n : Nat) (s : CSt) (h : DaeAt w gd g C xb L ks dr ls D) (hn : n < 63) (hst : (ls n).st ≠ 0) (hs : (ls n).cn = some s) (hl : s.led.length ≤ 100000) (hkl : ∀ t ∈ s.led, t.key.length ≤ 5000) :
    Calls Tryz.prog 31 #[ptrV gd, .int .i64 (n : Int)] w (LedR s.led w) := by
  have LN := Lib.hid (dline_on w gd g C xb L ks dr ls D n h hn hst)
  obtain ⟨base, gc, r, Lb, RO, c0, hc, -⟩ := h.conn hn hs
  have LE := Lib.hid (cledger_any w base gc r Lb RO s hc hl hkl)
  clear h hc hkl
  go_enter Tryz.func31, Tryz.ntmps31
  go_wp2_with fail
  refine LN.out.mono ?_
  rintro e w1 ⟨rfl, rfl⟩
  go_wp2_with fail
  refine LE.out.mono ?_
  rintro e w1 ⟨A, c, ks, rfl, hN, hx⟩
  have HN := Lib.hid hN; have HX := Lib.hid hx
  clear hN hx
  go_wp2_with fail
  go_ret
  exact ⟨A, c, ks, rfl, HN.out, HX.out⟩
end

section
open Go.RowKit

/-- a call that was made, and its key -/
def CallKey (w : World) (base : Nat) (c : CCall) (v : Value) : Prop := ∃ A k, v = .agg #[.int .u8 (c.op : Int), .int .i64 (c.pol : Int), .slice A c.key.length k, .int .i64 (c.num : Int)] ∧ w.ownsRow base 5 1 (.slice A c.key.length k) c.key.length (vals .u8 c.key)
set_option maxHeartbeats 4000000 in
set_option maxRecDepth 100000 in
theorem cnext_key (w : World) (base gc r : Nat) (L : List (Option Nat)) (RO : Nat → Prop) (s : CSt) (h : ConnAt w base L RO gc r s) (ho : s.out = none) (hc : s.closed = false) (c : CCall) (rest : List CCall) (hl : s.line = c :: rest) (hk : c.key.length ≤ 5000) :
    Calls Tryz.prog 103 #[.pointer (some ⟨gc, 0, none⟩)] w fun x w' => ∃ v, x = .returned (.tuple #[v, .int .i64 0]) ∧ CallKey w' w.heap.size c v ∧ ConnGo w base L RO gc r { s with line := rest, out := some c } w' := by
  obtain ⟨W, hW⟩ : ∃ W, w.alloc (.cells #[.int .u8 0, .int .i64 0, .slice none 0 0, .int .i64 0] 34) = W := ⟨_, rfl⟩
  have xW : Ext w W := by rw [← hW]; exact (Ext.refl w).alloc _
  have KW := Lib.hid (show W.heap[w.heap.size]? = some (.cells #[.int .u8 0, .int .i64 0, .slice none 0 0, .int .i64 0] 34 (0, 0)) by rw [← hW]; exact blk_new w _)
  obtain ⟨ao, cp, ov, d1, -, d3, d6, fz, o1, hgl⟩ := (h.ext xW).cells
  rw [ho] at o1
  obtain rfl := o1
  rw [hc] at d6
  rw [hl] at d1
  simp only [List.length_cons] at d1
  have f1 := fz 1; have f3 := fz 3
  obtain ⟨b, off, cap, K, kc, v', d1', q0, q1, q2, q3, hkc, hrd, hrun, ⟨va, vc, rfl⟩, hki, hgo⟩ := (h.ext xW).next hl
  rw [d1] at d1'
  injection d1' with d1'
  injection d1' with e1 _ e2
  subst e1 e2
  obtain ⟨op, pol, key, num⟩ := c
  dsimp only [callC] at q0 q1 q2 q3 hkc hrd hgo hk ⊢
  obtain ⟨m, Hm⟩ : ∃ m, Hid (key.length = m) := ⟨_, rfl⟩
  rw [Hm.out] at q2 hkc hgo hk
  obtain ⟨n, Hn⟩ : ∃ n, Hid (rest.length = n) := ⟨_, rfl⟩
  rw [Hn.out] at d1 hrun hgo
  obtain ⟨V, hV⟩ : ∃ V, W.alloc (.cells #[.int .u8 (op : Int), .int .i64 (pol : Int), .slice K m kc, .int .i64 (num : Int)] 34) = V := ⟨_, rfl⟩
  have xV : Ext W V := by rw [← hV]; exact (Ext.refl W).alloc _
  have KV := Lib.hid (show V.heap[W.heap.size]? = some (.cells #[.int .u8 (op : Int), .int .i64 (pol : Int), .slice K m kc, .int .i64 (num : Int)] 34 (0, 0)) by rw [← hV]; exact blk_new W _)
  obtain ⟨L', RO', k1, k2, k3⟩ := hgo V W.heap.size xV KV.out (Nat.le_refl _)
  have K1 := Lib.hid k1; have K2 := Lib.hid k2; have K3 := Lib.hid k3
  have H := Lib.hid h; have XW := Lib.hid xW; have XV := Lib.hid xV; have HRD := Lib.hid hrd
  have e1 : V.cell? ⟨gc, 1, none⟩ = some (.slice (some ⟨b, off, none⟩) (n + 1) cp) := ext_cell xV d1
  have e3 := ext_cell xV d3
  have h1 := frz_ext2 xV d1 f1; have h3 := frz_ext2 xV d3 f3
  clear h ho hc hl fz hrd hgo k1 k2 k3 xW xV
  go_enter Tryz.func103, Tryz.ntmps103
  go_upto_region 1 with fail
  (try rw [hW])
  clear hW
  go_upto_region 11 with fail
  (try rw [hV])
  clear hV d1 d3 q0 q1 q2 q3
  go_upto_region 13 with fail
  obtain ⟨X, hX⟩ : ∃ X, (V.setCell ⟨gc, 1, none⟩ (.slice va n vc)).setCell ⟨gc, 3, none⟩ (.pointer (some ⟨W.heap.size, 0, none⟩)) = X := ⟨_, rfl⟩
  have gX : GB V X (· = gc) := by rw [← hX]; exact ((GB.refl V (· = gc)).set gc 1 _ (.inl rfl)).set gc 3 _ (.inl rfl)
  rw [hX] at K1
  (try rw [hX])
  clear hX
  have ng0 : ¬ w.heap.size = gc := by have := (H.out.bounds.2.1 gc H.out.bounds.1).2; omega
  have ng1 : ¬ W.heap.size = gc := by omega
  have x4 := gX.blk KV.out ng1
  have x2 := gX.blk (blk_ext KW.out XV.out) ng0
  have X2 := Lib.hid x2
  have nb : ¬ W.heap.size = w.heap.size := by have := blk_lt KW.out; omega
  have a0 : X.cell? ⟨W.heap.size, 0, none⟩ = some (.int .u8 (op : Int)) := blk_cell x4 0
  have a1 : X.cell? ⟨W.heap.size, 1, none⟩ = some (.int .i64 (pol : Int)) := blk_cell x4 1
  have a2 : X.cell? ⟨W.heap.size, 2, none⟩ = some (.slice K m kc) := blk_cell x4 2
  have a3 : X.cell? ⟨W.heap.size, 3, none⟩ = some (.int .i64 (num : Int)) := blk_cell x4 3
  have CL := Lib.hid (fun u (y : Ext X u) => clone_any K m kc key u Hm.out (by omega) ((gX.rd (HRD.out.ext XV.out) (fun p hp e => (H.out.bounds.2.2 _ (hki p hp)).1 (by rw [e]; exact H.out.bounds.1))).ext y))
  have GX := Lib.hid gX
  clear e1 e3 h1 h3 f1 f3 x4 x2 gX d6
  go_region_held3 (fun u => u.cell? ⟨W.heap.size, 0, none⟩ = some (.int .u8 (op : Int)) ∧ u.cell? ⟨W.heap.size, 1, none⟩ = some (.int .i64 (pol : Int)) ∧ u.cell? ⟨W.heap.size, 2, none⟩ = some (.slice K m kc) ∧ u.cell? ⟨W.heap.size, 3, none⟩ = some (.int .i64 (num : Int)))
    (((try dsimp only); refine ⟨?_, ?_, ?_, ?_⟩ <;> first | (with_reducible assumption) | (with_reducible exact drew_cell a0) | (with_reducible exact drew_cell a1) | (with_reducible exact drew_cell a2) | (with_reducible exact drew_cell a3) | (with_reducible exact cell_far4 b0 nb) | (with_reducible exact cell_far4 b1 nb) | (with_reducible exact cell_far4 b2 nb) | (with_reducible exact cell_far4 b3 nb)))
    (first | (go_at_call 67; (with_reducible refine (CL.out _ (by first | exact Ext.refl X | exact (Ext.refl X).drew)).mono ?_); rintro e w4 ⟨A4, c4, rfl, ho4, y0⟩; have y := (Ext.refl X).drew.trans y0; rw [Hm.out] at ho4 ⊢; have Y := Lib.hid y; have k4 := blk_ext X2.out y; have HO4 := Lib.hid ho4; have b0 := ext_cell y a0; have b1 := ext_cell y a1; have b2 := ext_cell y a2; have b3 := ext_cell y a3; have z0 := blk_cell k4 0; have z1 := blk_cell k4 1; have z2 := blk_cell k4 2; have z3 := blk_cell k4 3; have t0 := blk_frozen k4 0; have t1 := blk_frozen k4 1; have t2 := blk_frozen k4 2; have t3 := blk_frozen k4 3; have K4 := Lib.hid k4; clear ho4 y y0 k4))
  all_goals
    have hb1 := blk_set (blk_set (blk_set (blk_set K4.out 0 (.int .u8 (op : Int))) 1 (.int .i64 (pol : Int))) 2 (.slice A4 m c4)) 3 (.int .i64 (num : Int))
    go_wp2_with fail
    refine bodyPost_ret (results_row_tmp (p := 2) (u := 3) rfl _ _ w.heap.size _ #[.int .u8 (op : Int), .int .i64 (pol : Int), .slice A4 m c4, .int .i64 (num : Int)] (0, 0) _ rfl hb1 Tryz.underlying34 (by rfl) (by kernel_rfl)) rfl ?_
    refine ⟨_, rfl, ⟨A4, c4, by rw [Hm.out], ?_⟩, conn_go_end H.out XW.out (blk_lt KW.out) (GB.of_ext _ XV.out) (fun b e => .inl (K2.out b e)) (fun b e => (K3.out b e).imp id (fun e => .inr (Nat.le_of_eq e.symm))) (K1.out.ext Y.out) (GX.out.ext Y.out) (((((GB.refl _ (· = w.heap.size)).set _ 0 _ (.inl rfl)).set _ 1 _ (.inl rfl)).set _ 2 _ (.inl rfl)).set _ 3 _ (.inl rfl))⟩
    rw [Hm.out]
    have hz : w.heap.size ≤ X.heap.size := Nat.le_trans (Nat.le_trans XW.out.size XV.out.size) GX.out.size
    have hz1 : w.heap.size < X.heap.size := Nat.lt_of_lt_of_le (blk_lt KW.out) (Nat.le_trans XV.out.size GX.out.size)
    exact own_base ((((((GB.refl w4 (· = w.heap.size)).set _ 0 _ (.inl rfl)).set _ 1 _ (.inl rfl)).set _ 2 _ (.inl rfl)).set _ 3 _ (.inl rfl)).own HO4.out (fun q e e2 => by have := (HO4.out.lt q e).1; have h9 : X.heap.size ≤ q := this; omega)) hz
end

section
open Go.RowKit

theorem pform_ok (p : Pol) (w : World) (h : PolOk p) : Calls Tryz.prog 123 #[.agg #[.int .u8 (p.kind : Int), .int .i64 p.T, .int .i64 p.Tau, .int .i64 p.perm]] w (RetE (.bool true) w) := by
  obtain ⟨kind, T, Tau, perm⟩ := p
  rcases h with ⟨h0, h1, h2, h3, h4⟩ | ⟨h0, h1, h2⟩
  · dsimp only at h0 h1 h2 h3 h4 ⊢
    subst h0
    have RC := Lib.hid (fun w => rcheck_ok T Tau w h1 h2 h3 h4)
    clear h1 h2 h3 h4
    go_enter Tryz.func123, Tryz.ntmps123
    go_wp2_with fail
    refine (RC.out _).mono ?_
    rintro e w1 ⟨rfl, hx⟩
    have HX := Lib.hid hx
    clear hx
    go_wp2_with fail
    go_ret
    exact ⟨rfl, ((Ext.refl w).alloc _).trans HX.out⟩
  · dsimp only at h0 h1 h2 ⊢
    subst h0
    go_enter Tryz.func123, Tryz.ntmps123
    go_wp2_with fail
    go_ret
    exact ⟨rfl, (Ext.refl w).alloc _⟩
set_option maxHeartbeats 1000000 in
theorem policies_ok (P : List Pol) (A : Option Addr) (n c : Nat) (w : World) (hn : P.length = n) (h32 : n ≤ 32) (hP : ∀ p ∈ P, PolOk p) (hr : Rd w A (polsV P)) : Calls Tryz.prog 78 #[.slice A n c] w (RetE (.int .i64 0) w) := by
  have Hr := Lib.hid hr; have HP := Lib.hid hP; have Hn := Lib.hid hn
  have hnl : ¬ (32 : Int) < (n : Int) := by omega
  clear hr hP hn
  go_enter Tryz.func78, Tryz.ntmps78
  go_wp2_with fail
  go_loopw [10] (fun v10 wr => ∃ i : Nat, v10 = .int .i64 (i : Int) ∧ i ≤ n ∧ Ext w wr) (fun v10 _ => n - (intOf v10).toNat)
  case atStart => exact ⟨0, rfl, Nat.zero_le _, Ext.refl w⟩
  case round =>
    obtain ⟨i, rfl, hi, hx⟩ := hrel
    have HX := Lib.hid hx
    clear hx
    by_cases hlt : i < n
    · have hlti : (i : Int) < (n : Int) := by omega
      have e := fun j (hj : j < 4) => polsV_get P i j _ (polAt_get (by rw [Hn.out]; exact hlt)) hj
      obtain ⟨b, off, hA, hc⟩ := (Hr.out.ext HX.out) (fun e0 => by have := e 0 (by omega); rw [e0] at this; simp [polV] at this)
      have hmem : polAt P i ∈ P := List.mem_of_getElem? (polAt_get (by rw [Hn.out]; exact hlt))
      obtain ⟨p, Hp⟩ : ∃ p, Hid (polAt P i = p) := ⟨_, rfl⟩
      rw [Hp.out] at e hmem
      have d0 : wr.cell? ⟨b, off + i * 4, none⟩ = some (.int .u8 (p.kind : Int)) := hc _ _ (e 0 (by omega))
      have d1 : wr.cell? ⟨b, off + i * 4 + 1, none⟩ = some (.int .i64 p.T) := by rw [Nat.add_assoc]; exact hc _ _ (e 1 (by omega))
      have d2 : wr.cell? ⟨b, off + i * 4 + 2, none⟩ = some (.int .i64 p.Tau) := by rw [Nat.add_assoc]; exact hc _ _ (e 2 (by omega))
      have d3 : wr.cell? ⟨b, off + i * 4 + 3, none⟩ = some (.int .i64 p.perm) := by rw [Nat.add_assoc]; exact hc _ _ (e 3 (by omega))
      have FM := Lib.hid (fun u => pform_ok p u (HP.out p hmem))
      have d0' := cell_past d0 (.cells #[.int .u8 0, .int .i64 0, .int .i64 0, .int .i64 0] 80); have d1' := cell_past d1 (.cells #[.int .u8 0, .int .i64 0, .int .i64 0, .int .i64 0] 80); have d2' := cell_past d2 (.cells #[.int .u8 0, .int .i64 0, .int .i64 0, .int .i64 0] 80); have d3' := cell_past d3 (.cells #[.int .u8 0, .int .i64 0, .int .i64 0, .int .i64 0] 80)
      have hwi : IntKind.i64.wrap ((i : Int) + 1) = (i : Int) + 1 := by rw [IntKind.wrap_i64]; omega
      subst hA
      clear e hc hmem
      go_wp2_with fail
      refine (FM.out _).mono ?_
      rintro e w1 ⟨rfl, hx⟩
      have HY := Lib.hid hx
      clear hx
      go_wp2_with fail
      go_roundw
      case rel => exact ⟨i + 1, by go_num, by omega, HX.out.trans (((Ext.refl wr).alloc _).trans HY.out)⟩
      case measure => simp [intOf]; omega
    · have hlti : ¬ (i : Int) < (n : Int) := by omega
      go_wp2_with fail
      go_ret
      exact ⟨rfl, HX.out⟩
theorem bkind_sema (op : Nat) (w : World) (h : op = 2 ∨ op = 3) : Calls Tryz.prog 128 #[.int .u8 (op : Int)] w fun e w' => e = .returned (.int .u8 2) ∧ w = w' := by
  rcases h with rfl | rfl
  · go_enter Tryz.func128, Tryz.ntmps128
    go_wp2_with fail
    go_ret
    exact ⟨rfl, rfl⟩
  · go_enter Tryz.func128, Tryz.ntmps128
    go_wp2_with fail
    go_ret
    exact ⟨rfl, rfl⟩
end

section
open Go.RowKit

set_option maxRecDepth 100000 in
set_option maxHeartbeats 2000000 in
theorem check_sema (P : List Pol) (A K : Option Addr) (n c pol kl kc : Nat) (op N : Int) (w : World) (hn : P.length = n) (h32 : n ≤ 32) (hP : ∀ p ∈ P, PolOk p) (hr : Rd w A (polsV P)) (hop : op = 2 ∨ op = 3) (hpol : pol < n) (hk : (polAt P pol).kind = 2) (hkl : kl ≤ 255) :
    Calls Tryz.prog 85 #[.slice A n c, .agg #[.int .u8 op, .int .i64 (pol : Int), .slice K kl kc, .int .i64 N]] w (RetE (.int .i64 0) w) := by
  have e := polsV_get P pol 0 _ (polAt_get (by rw [hn]; exact hpol)) (by omega)
  obtain ⟨b, off, hA, hc⟩ := id hr (fun e0 => by rw [e0] at e; simp [polV] at e)
  have hkc : w.cell? ⟨b, off + pol * 4, none⟩ = some (.int .u8 2) := by
    have h0 := hc _ _ e
    rw [Nat.add_zero] at h0
    refine h0.trans ?_
    show some (Value.int .u8 ((polAt P pol).kind : Int)) = _
    rw [hk]
    rfl
  have KD := Lib.hid (show ∀ w, Calls Tryz.prog 128 #[.int .u8 op] w fun e w' => e = .returned (.int .u8 2) ∧ w = w' by
    intro w
    rcases hop with rfl | rfl
    · exact bkind_sema 2 w (.inl rfl)
    · exact bkind_sema 3 w (.inr rfl))
  obtain ⟨W, hW⟩ : ∃ W, (w.alloc (.cells #[.int .u8 op, .int .i64 (pol : Int), .slice K kl kc, .int .i64 N] 34)) = W := ⟨_, rfl⟩
  have xW : Ext w W := by rw [← hW]; exact ((Ext.refl w).alloc _)
  have PO := Lib.hid (policies_ok P A n c W hn h32 hP (hr.ext xW))
  have K0 := Lib.hid (show W.heap[w.heap.size]? = some (.cells #[.int .u8 op, .int .i64 (pol : Int), .slice K kl kc, .int .i64 N] 34 (0, 0)) by rw [← hW]; exact blk_new w _)
  have HKC := Lib.hid hkc; have XW := Lib.hid xW; have HW := Lib.hid hW
  have p0 : ¬ (pol : Int) < 0 := by omega
  have p1 : ¬ (n : Int) ≤ (pol : Int) := by omega
  have p2 : (pol : Int) < (n : Int) := by omega
  have p3 : ¬ (255 : Int) < (kl : Int) := by omega
  have p4 : decide ((255 : Int) < (kl : Int)) = false := decide_eq_false p3
  have p5 : decide ((pol : Int) < 0) = false := decide_eq_false p0
  have p6 : decide ((n : Int) ≤ (pol : Int)) = false := decide_eq_false p1
  have c0 : W.cell? ⟨w.heap.size, 0, none⟩ = some (.int .u8 op) := blk_cell K0.out 0
  have c1 : W.cell? ⟨w.heap.size, 1, none⟩ = some (.int .i64 (pol : Int)) := blk_cell K0.out 1
  have c2 : W.cell? ⟨w.heap.size, 2, none⟩ = some (.slice K kl kc) := blk_cell K0.out 2
  subst hA
  clear hr hP hn hk e hc hkc xW hW hkl h32
  rcases hop with rfl | rfl
  all_goals
    go_enter Tryz.func85, Tryz.ntmps85
    go_upto_region 1 with fail
    (try rw [HW.out])
    clear HW
    go_wp2_with fail
    refine PO.out.mono ?_
    rintro e w1 ⟨rfl, hx⟩
    have HX := Lib.hid hx
    have K1 := Lib.hid (blk_ext K0.out hx)
    clear c0 c1 c2
    have c0 : w1.cell? ⟨w.heap.size, 0, none⟩ = some (.int .u8 _) := blk_cell K1.out 0
    have c1 : w1.cell? ⟨w.heap.size, 1, none⟩ = some (.int .i64 (pol : Int)) := blk_cell K1.out 1
    have hq := ext_cell (XW.out.trans hx) HKC.out
    clear hx
    go_upto_region 9 with fail
    go_quiet ((go_at_call 128; exact quiet_eq (KD.out _)))
    go_wp2_with fail
    go_ret
    exact ⟨rfl, XW.out.trans (HX.out.trans ((Ext.refl w1).drewN _))⟩
end

section
open Go.RowKit

theorem ksum_any (pol : Nat) (K : Option Addr) (kl kc : Nat) (key : List Nat) (w : World) (hp : pol < 32) (hl : key.length = kl) (hn : kl ≤ 255) (hb : ∀ x ∈ key, x < 256) (hr : Rd w K (vals .u8 key)) :
    Calls Tryz.prog 86 #[.int .i64 (pol : Int), .slice K kl kc] w (RetE (.int .u64 (sumK (pol :: key) : Int)) w) := by
  obtain ⟨l, Hlen⟩ : ∃ l, Hid ((pol :: key).length = l) := ⟨_, rfl⟩
  have ID := Lib.hid (ident_l pol K kl kc l key w hp hl hn hr Hlen.out)
  have HB := Lib.hid (show ∀ x ∈ pol :: key, x < 256 from fun x hx => by
    rcases List.mem_cons.1 hx with hx | hx
    · omega
    · exact hb x hx)
  have hl9 : l ≤ 9223372036854775807 := by rw [← Hlen.out, List.length_cons, hl]; omega
  clear hp hl hn hb hr
  go_enter Tryz.func86, Tryz.ntmps86
  go_wp2_with fail
  refine ID.out.mono ?_
  rintro e w1 ⟨A, c, rfl, hr, hx⟩
  have SM := Lib.hid (sum_any A l c (pol :: key) w1 Hlen.out HB.out hl9 hr)
  have HX := Lib.hid hx
  clear hr hx
  go_wp2_with fail
  refine SM.out.mono ?_
  rintro e w2 ⟨rfl, rfl⟩
  go_wp2_with fail
  go_ret
  exact ⟨rfl, HX.out⟩
theorem cfirst_begin (w : World) (X : Nat → Prop) (g : CoK) (who xb : Nat) (x : PCall) (res : Bool) (ser : Int) (hX : Newer w X) (hx : XAt w X g.gx who x res ser xb) (hg : CoRd w X g) (hp : x.pol < g.P.length) (hpm : g.P.length ≤ 32) (h6 : x.op ≠ 6) (h5 : x.op ≠ 5) :
    Calls Tryz.prog 87 #[ptrV xb] w (ClR (fun w' v => KontAt w' X (cidOf g who xb x) v (.find (sumK x.id) .begin)) w) := by
  have hmf := hmfC
  obtain ⟨W, hW⟩ : ∃ W, (w.alloc (.cells #[ptrV xb] 203)) = W := ⟨_, rfl⟩
  have xW : Ext w W := by rw [← hW]; exact ((Ext.refl w).alloc _)
  have BG := Lib.hid (cbegin_k W X g who xb x res ser (hX.ext xW) (hx.ext xW) (hg.ext xW) hp hpm)
  have e0 : W.cell? ⟨w.heap.size, 0, none⟩ = some (ptrV xb) := by rw [← hW]; exact ((RowX.new rfl (hX.not (by omega)))).cell 0
  obtain ⟨K, kc, x0, -⟩ := (hx.ext xW).cells
  have b6 : ((x.op : Int) == 6) = false := by rw [beq_eq_false_iff_ne]; omega
  have b5 : ((x.op : Int) == 5) = false := by rw [beq_eq_false_iff_ne]; omega
  have XW := Lib.hid xW; have HW := Lib.hid hW
  clear hx hg hX xW hW hp hpm h6 h5
  go_enter Tryz.func87, Tryz.ntmps87
  go_upto_region 1 with fail
  (try rw [HW.out])
  clear HW
  go_wp2_with fail
  refine BG.out.mono ?_
  rintro e w1 ⟨v, rfl, hk, hx⟩
  have HK := Lib.hid hk; have HX := Lib.hid hx
  clear hk hx
  go_wp2_with fail
  go_ret
  exact ⟨_, rfl, HK.out, XW.out.trans HX.out⟩
end
end Go.Proofs.YtloidkmphigbdaaGreat
