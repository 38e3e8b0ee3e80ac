/- shard: Entries: a list in new memory, its keys too. -/
import Derived.Test.YtlgggeeflomelaaShH
namespace Go.Proofs.Ytlgggeeflomelaa
open Go.RowKit

/-- a list of entries that a call made: its row, and each key -/
def EntNew (w : World) (base : Nat) (A : Option Addr) (n c : Nat) (l : List Ent) (ks : List Kref) : Prop :=
  EntOwn w base A n c l ks ∧ ∀ (i : Nat) (q : Kref) (e : Ent), ks[i]? = some q → l[i]? = some e → w.ownsRow base 5 1 (.slice q.1 e.1.length q.2) e.1.length (vals .u8 e.1) ∧ ∀ g, (Value.slice q.1 e.1.length q.2).ownBlock = some g → (Value.slice A n c).ownBlock ≠ some g
theorem EntNew.nil (w : World) (base : Nat) : EntNew w base none 0 0 [] [] := ⟨⟨rfl, rfl, World.ownsRow_nil _ _ _ _⟩, fun i q e h => by simp at h⟩
theorem EntNew.ext {w w' : World} {base : Nat} {A : Option Addr} {n c : Nat} {l : List Ent} {ks : List Kref} (h : EntNew w base A n c l ks) (x : Ext w w') : EntNew w' base A n c l ks :=
  ⟨⟨h.1.1, h.1.2.1, own_ext h.1.2.2 x⟩, fun i q e h1 h2 => ⟨own_ext (h.2 i q e h1 h2).1 x, (h.2 i q e h1 h2).2⟩⟩
theorem EntNew.base {w : World} {base base' : Nat} {A : Option Addr} {n c : Nat} {l : List Ent} {ks : List Kref} (h : EntNew w base A n c l ks) (x : base' ≤ base) : EntNew w base' A n c l ks :=
  ⟨⟨h.1.1, h.1.2.1, own_base h.1.2.2 x⟩, fun i q e h1 h2 => ⟨own_base (h.2 i q e h1 h2).1 x, (h.2 i q e h1 h2).2⟩⟩
theorem EntNew.rd {w : World} {base : Nat} {A : Option Addr} {n c : Nat} {l : List Ent} {ks : List Kref} (h : EntNew w base A n c l ks) : EntRd w A l ks :=
  ⟨h.1.1, rd_own_s h.1.2.2, fun i q e h1 h2 => ⟨own_cap (h.2 i q e h1 h2).1, Rd.of_own (h.2 i q e h1 h2).1⟩⟩
theorem entV_snoc {ks : List Kref} {l : List Ent} (q : Kref) (e : Ent) (h : ks.length = l.length) : entV (ks ++ [q]) (l ++ [e]) = entV ks l ++ [.slice q.1 e.1.length q.2, .int .i64 e.2] := by rw [entV_app h]; rfl
theorem grown_cellN {w w' : World} {o : Obj} {b i : Nat} {v : Value} {row : Option Nat} (g : (w.alloc o).grownBy w' row) (h : w.cell? ⟨b, i, none⟩ = some v) (hn : row ≠ some b) : w'.cell? ⟨b, i, none⟩ = some v := g.cell (ext_cell ((Ext.refl w).alloc o) h) hn.symm
/-- one more -/
theorem EntNew.snoc {w w4 w5 w6 : World} {base b4 k c cb m c4 : Nat} {A A4 B : Option Addr} {l : List Ent} {ks : List Kref} {x : List Nat} {v : Int} (h : EntNew w base A k c l ks) (x4 : Ext w w4) (hm : x.length = m)
    (o4 : w4.ownsRow b4 5 1 (.slice A4 m c4) m (vals .u8 x)) (hb : w.heap.size ≤ b4) (hbw : base ≤ w.heap.size) (x5 : Ext w4 w5)
    (o6 : w6.ownsRow base 102 2 (.slice B (k + 1) cb) (k + 1) (entV ks l ++ [.slice A4 m c4, .int .i64 v])) (g6 : w5.grownBy w6 (Value.slice A k c).ownBlock)
    (b6 : (Value.slice B (k + 1) cb).ownBlock = (Value.slice A k c).ownBlock ∨ (Value.slice B (k + 1) cb).ownBlock = some w5.heap.size) : EntNew w6 base B (k + 1) cb (l ++ [(x, v)]) (ks ++ [(A4, c4)]) := by
  subst hm
  obtain ⟨⟨h1, h2, h3⟩, h4⟩ := h
  have hne : (Value.slice A4 x.length c4).ownBlock = none ∨ (Value.slice A4 x.length c4).ownBlock ≠ (Value.slice A k c).ownBlock := by
    cases e : (Value.slice A4 x.length c4).ownBlock with
    | none => exact .inl rfl
    | some g => exact .inr fun e2 => by have := (o4.lt g e).1; have := (h3.lt g e2.symm).2; omega
  have o4' : w6.ownsRow b4 5 1 (.slice A4 x.length c4) x.length (vals .u8 x) := (own_ext o4 x5).kept g6 hne
  refine ⟨⟨by simp [h1], by simp [h2], by rw [entV_snoc (A4, c4) (x, v) h1]; exact o6⟩, fun i q e hq he => ?_⟩
  rcases Nat.lt_or_ge i l.length with hi | hi
  · rw [List.getElem?_append_left (by rw [h1]; exact hi)] at hq
    rw [List.getElem?_append_left hi] at he
    obtain ⟨k1, k2⟩ := h4 i q e hq he
    refine ⟨(own_ext (own_ext k1 x4) x5).kept g6 ?_, fun g hg hg2 => ?_⟩
    · cases e9 : (Value.slice q.1 e.1.length q.2).ownBlock with
      | none => exact .inl rfl
      | some g => exact .inr fun e2 => k2 g e9 e2.symm
    · rcases b6 with b6 | b6
      · exact k2 g hg (b6 ▸ hg2)
      · rw [b6] at hg2
        injection hg2 with hg2
        have := (k1.lt g hg).2
        have := x4.size; have := x5.size
        omega
  · rw [List.getElem?_append_right (by rw [h1]; exact hi)] at hq
    rw [List.getElem?_append_right hi] at he
    have hz : i - ks.length = 0 := by
      have := (List.getElem?_eq_some_iff.1 hq).1
      simp at this
      omega
    rw [hz] at hq
    rw [← h1, hz] at he
    simp at hq he
    subst hq he
    refine ⟨own_base o4' (Nat.le_trans hbw hb), fun g hg hg2 => ?_⟩
    rcases b6 with b6 | b6
    · rw [b6] at hg2
      have := (h3.lt g hg2).2; have := (o4.lt g hg).1
      omega
    · rw [b6] at hg2
      injection hg2 with hg2
      have := (o4.lt g hg).2
      have := x5.size
      omega
theorem step_app_ent {ops : Array Oper} {o : Oper} {a : Act} {K : Act → World → Prop} {Q : Exit → Act → World → Prop} {E : Prop} (w : World) (hgd : o.guard = none) (s x : Operand)
    (ho : o.op = .call { callee := .builtin .append, args := #[s, x], argTypes := #[90, 90] })
    (base : Nat) {B : Option Addr} {n cb : Nat} {xs : List Value} (hs : a.eval s = .slice B n cb) (hown : w.ownsRow base 102 2 (.slice B n cb) n xs)
    {A : Option Addr} {c : Nat} {y z : Value} (hx : a.eval x = .slice A 1 c) (hr : Rd w A [y, z]) (hy : y.oneCell' = true) (hz : z.oneCell' = true) (hb : n ≤ 100000) (hbase : base ≤ w.heap.size)
    (h : ∀ B' cb' w', w'.ownsRow base 102 2 (.slice B' (n + 1) cb') (n + 1) (xs ++ [y, z]) → w.grownBy w' (Value.slice B n cb).ownBlock →
      ((Value.slice B' (n + 1) cb').ownBlock = (Value.slice B n cb).ownBlock ∨ (Value.slice B' (n + 1) cb').ownBlock = some w.heap.size) → K (a.put o.dst (.slice B' (n + 1) cb')) w') :
    if Region.wanted o (yielded ops a.tmps) = true then Oper.wp Try.prog o a w K Q else E := by
  have hw : Region.wanted o (yielded ops a.tmps) = true := by simp [Region.wanted, hgd]
  rw [if_pos hw]
  obtain ⟨i0, hi, hz0, hz1, hz2⟩ := info_parts sh_info
  exact wp_append_rd w s x 90 ho base 102 Try.underlying90 hi hz0 hz1 hz2 rfl (by decide) hs hown hx (m := 1) (news := [y, z]) rfl hr (by intro u hu; simp at hu; rcases hu with rfl | rfl <;> assumption) (by unfold maxLen; omega) (by omega) hbase h
/-- Entries' answer -/
def EntsR (l : List Ent) (w : World) (e : Ending) (w' : World) : Prop := ∃ A c ks, e = .returned (.slice A l.length c) ∧ EntNew w' w.heap.size A l.length c l ks ∧ Ext w w'
set_option maxHeartbeats 4000000 in
set_option maxRecDepth 100000 in
theorem sentries_any (w : World) (C F : Nat → Prop) (gx gb : Nat) (L : List AccE) (s : SSt) (h : ShAt w C F gx gb L s) (hl : LstOk s.lst) :
    Calls Try.prog 45 #[.pointer (some ⟨gx, 0, none⟩)] w (EntsR s.lst w) := by
  obtain ⟨Fm, gm, gh, A0, c0, ks0, -, x0, -⟩ := h.mach
  have LK := Lib.hid (blook_any w C F gx gb L s h)
  obtain ⟨l, Hl⟩ : ∃ l, Hid (s.lst = l) := ⟨_, rfl⟩
  rw [Hl.out] at LK hl ⊢
  have HL := Lib.hid hl
  obtain ⟨n, Hn⟩ : ∃ n, Hid (l.length = n) := ⟨_, rfl⟩
  have hn : n ≤ 4096 := by rw [← Hn.out]; exact hl.2.2
  rw [Hn.out] at LK
  clear h hl
  go_enter Try.func45, Try.ntmps45
  go_wp2_with fail
  refine LK.out.mono ?_
  rintro e w1 ⟨A, c, ks, rfl, hE, hx1⟩
  have HE := Lib.hid hE.1; have HX1 := Lib.hid hx1
  clear hE hx1
  go_wp2_with fail
  go_loopw [3, 20] (fun v i wr => ∃ (k : Nat) (B : Option Addr) (cb : Nat) (kk : List Kref), k ≤ n ∧ i = .int .i64 (k : Int) ∧ v = .slice B k cb ∧ EntNew wr w.heap.size B k cb (l.take k) kk ∧ Ext w wr) (fun _ i _ => n - (intOf i).toNat)
  case atStart => exact ⟨0, none, 0, [], Nat.zero_le _, rfl, rfl, EntNew.nil _ _, HX1.out⟩
  case round =>
    obtain ⟨k, B, cb, kk, hk, rfl, rfl, hN, hx⟩ := hrel
    by_cases hlt : k < n
    · obtain ⟨e, he⟩ : ∃ e, l[k]? = some e := ⟨_, List.getElem?_eq_getElem (by rw [Hn.out]; exact hlt)⟩
      obtain ⟨b, off, K, kc, hA, hks, d0, d1, hkc, hkr⟩ := (HE.out.ext hx).at_ he
      have hok := HL.out.2.1 e (List.mem_of_getElem? he)
      obtain ⟨x, v⟩ := e
      dsimp only at d0 d1 hkc hkr hok
      subst hA
      obtain ⟨m, Hm⟩ : ∃ m, Hid (x.length = m) := ⟨_, rfl⟩
      rw [Hm.out] at d0 hkc
      have hm : m ≤ 256 := by rw [← Hm.out]; exact hok.1
      have HT := Lib.hid (take_succ_of he)
      have HN := Lib.hid hN; have HX := Lib.hid hx
      have hsz : w.heap.size ≤ wr.heap.size := hx.size
      obtain ⟨W, hW⟩ : ∃ W, wr.alloc (.cells #[.slice K m kc, .int .i64 v] 102) = W := ⟨_, rfl⟩
      have xW : Ext wr W := by rw [← hW]; exact (Ext.refl wr).alloc _
      have KB := Lib.hid (show W.heap[wr.heap.size]? = some (.cells #[.slice K m kc, .int .i64 v] 102 (0, 0)) by rw [← hW]; exact blk_new wr _)
      have CL := Lib.hid (fun u (y : Ext W u) => bclone_any K m kc x u Hm.out (by omega) (hkr.ext (xW.trans y)))
      have XW := Lib.hid xW
      have NW := Lib.hid (hN.ext xW)
      have hWs : wr.heap.size ≤ W.heap.size := xW.size
      clear he hok hkr hN hx xW hks
      go_upto_region 8 with fail
      (try rw [hW])
      clear hW d0 d1
      have e0 : W.cell? ⟨wr.heap.size, 0, none⟩ = some (.slice K m kc) := blk_cell KB.out 0
      have e1 : W.cell? ⟨wr.heap.size, 1, none⟩ = some (.int .i64 v) := blk_cell KB.out 1
      go_region_held3 (fun u => u.cell? ⟨wr.heap.size, 0, none⟩ = some (.slice K m kc) ∧ u.cell? ⟨wr.heap.size, 1, none⟩ = some (.int .i64 v))
        (((try dsimp only); refine ⟨?_, ?_⟩ <;> first | (with_reducible assumption) | (with_reducible exact drew_cell e0) | (with_reducible exact drew_cell e1) | (with_reducible exact ext_cell ((Ext.refl _).alloc _) y0) | (with_reducible exact ext_cell ((Ext.refl _).alloc _) y1) | (with_reducible exact grown_cellN g6 y0 NE) | (with_reducible exact grown_cellN g6 y1 NE)))
        (first
          | (go_at_call 66; (with_reducible refine (CL.out _ (by first | exact Ext.refl W | exact (Ext.refl W).drew)).mono ?_); rintro e w4 ⟨A4, c4, rfl, ho4, x4⟩; rw [Hm.out] at ho4 ⊢; have HO4 := Lib.hid ho4; have X4 := Lib.hid x4; have y0 := ext_cell x4 (drew_cell e0); have y1 := ext_cell x4 (drew_cell e1); clear ho4 x4)
          | (refine step_app_ent (w4.alloc (.cells #[.slice A4 m c4, .int .i64 v] 102)) rfl (.tmp 24) (.tmp 31) rfl w.heap.size (by rfl) (own_ext NW.out.1.2.2 (((Ext.refl W).drew.trans X4.out).alloc _)) (by rfl) (show Rd _ _ _ from rd_newk w4 [.slice A4 m c4, .int .i64 v] _ rfl) rfl rfl (by omega) (Nat.le_trans (Nat.le_trans hsz hWs) (((Ext.refl W).drew.trans X4.out).alloc _).size) ?_; intro B' cb' w6 o6 g6 b6; have NE : (Value.slice B k cb).ownBlock ≠ some wr.heap.size := fun e => Nat.lt_irrefl _ (Nat.lt_of_lt_of_le (HN.out.1.2.2.lt _ e).2 (Nat.le_refl _))))
      all_goals
        have x6 : ∀ w0, Ext w0 wr → w0.heap.size ≤ w.heap.size → Ext w0 w6 := fun w0 h0 hz => (((h0.trans XW.out).drew.trans X4.out).alloc _).grown g6 (fun q e => Nat.le_trans hz (HN.out.1.2.2.lt q e).1)
        go_wp2_with fail
        go_roundw
        case rel => exact ⟨k + 1, B', cb', kk ++ [(A4, c4)], hlt, by go_num, rfl, by rw [HT.out]; exact NW.out.snoc (w4 := w4) ((Ext.refl W).drew.trans X4.out) Hm.out HO4.out (Nat.le_refl _) (Nat.le_trans hsz hWs) ((Ext.refl w4).alloc _) o6 g6 b6, x6 w HX.out (Nat.le_refl _)⟩
        case measure => simp [intOf]; omega
    · obtain rfl : k = n := by omega
      go_wp2_with fail
      go_ret
      rw [List.take_of_length_le (by rw [Hn.out]; exact Nat.le_refl _)] at hN
      exact ⟨B, cb, kk, by rw [Hn.out]; rfl, by rw [Hn.out]; exact hN, hx⟩
end Go.Proofs.Ytlgggeeflomelaa
