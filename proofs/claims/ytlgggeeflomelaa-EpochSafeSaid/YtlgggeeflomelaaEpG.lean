/- epoch: Collect. -/
import Derived.Test.YtlgggeeflomelaaEpF
namespace Go.Proofs.Ytlgggeeflomelaa
open Go.RowKit

theorem old_succ {e : Nat} {xs : List (Int × Nat)} {k : Nat} {t : Int × Nat} (h : xs[k]? = some t) (ho : isOld e t = true) : oldOf e (xs.take (k + 1)) = oldOf e (xs.take k) ++ [t.1] ∧ stayOf e (xs.take (k + 1)) = stayOf e (xs.take k) := by
  unfold oldOf stayOf
  rw [take_succ_of h, List.filter_append, List.filter_append, List.map_append]
  simp [ho]
theorem stay_succ {e : Nat} {xs : List (Int × Nat)} {k : Nat} {t : Int × Nat} (h : xs[k]? = some t) (ho : isOld e t = false) : oldOf e (xs.take (k + 1)) = oldOf e (xs.take k) ∧ stayOf e (xs.take (k + 1)) = stayOf e (xs.take k) ++ [t] := by
  unfold oldOf stayOf
  rw [take_succ_of h, List.filter_append, List.filter_append, List.map_append]
  simp [ho]
theorem own_none_or {w : World} {base : Nat} {e : TypeId} {z : Nat} {v : Value} {n : Nat} {xs : List Value} (h : w.ownsRow base e z v n xs) {q : Nat} (hq : v.ownBlock = some q) : base ≤ q ∧ q < w.heap.size := h.lt q hq
/-- what the loop of Collect has so far -/
def CollAt (W : World) (e k : Nat) (xs : List (Int × Nat)) (v9 v10 : Value) (wr : World) : Prop :=
  ∃ A a ca B b cb, v9 = .slice A a ca ∧ v10 = .slice B b cb ∧ wr.ownsRow W.heap.size 3 1 (.slice A a ca) a (ivals (oldOf e (xs.take k))) ∧ wr.ownsRow W.heap.size 127 2 (.slice B b cb) b (things (stayOf e (xs.take k))) ∧ a ≤ k ∧ b ≤ k ∧ (∀ q, (Value.slice A a ca).ownBlock = some q → (Value.slice B b cb).ownBlock ≠ some q) ∧ Ext W wr
theorem coll_old {W wr w1 : World} {e k : Nat} {xs : List (Int × Nat)} {t : Int × Nat} {A A1 : Option Addr} {a ca c1 : Nat} {B : Option Addr} {b cb : Nat} {N : Nat} (ht : xs[k]? = some t) (hot : isOld e t = true) (x : Ext W wr) {wx : World} (xw : Ext wr wx) (hA : wr.ownsRow W.heap.size 3 1 (.slice A a ca) a (ivals (oldOf e (xs.take k)))) (hB : wr.ownsRow W.heap.size 127 2 (.slice B b cb) b (things (stayOf e (xs.take k))))
    (hne : ∀ q, (Value.slice A a ca).ownBlock = some q → (Value.slice B b cb).ownBlock ≠ some q) (ha : a ≤ k) (hb : b ≤ k) (h1 : w1.ownsRow W.heap.size 3 1 (.slice A1 (a + 1) c1) (a + 1) (ivals (oldOf e (xs.take k) ++ [t.1]))) (g : wx.grownBy w1 (Value.slice A a ca).ownBlock) (hN : wx.heap.size = N) (hb1 : (Value.slice A1 (a + 1) c1).ownBlock = (Value.slice A a ca).ownBlock ∨ (Value.slice A1 (a + 1) c1).ownBlock = some N) :
    CollAt W e (k + 1) xs (.slice A1 (a + 1) c1) (.slice B b cb) w1 := by
  have hh := old_succ ht hot
  have hBx := own_ext hB xw
  have hne' : (Value.slice B b cb).ownBlock = none ∨ (Value.slice B b cb).ownBlock ≠ (Value.slice A a ca).ownBlock := by
    cases hq : (Value.slice B b cb).ownBlock with
    | none => exact .inl rfl
    | some q => exact .inr fun h => hne q h.symm hq
  refine ⟨A1, a + 1, c1, B, b, cb, rfl, rfl, by rw [hh.1]; exact h1, by rw [hh.2]; exact hBx.kept g hne', by omega, by omega, fun q hq1 hq2 => ?_, (x.trans xw).grown g (fun q hq => (hA.lt q hq).1)⟩
  rcases hb1 with h | h
  · exact hne q (h ▸ hq1) hq2
  · rw [h] at hq1
    injection hq1 with hq1
    have := (hBx.lt q hq2).2
    omega
theorem coll_stay {W wr w1 : World} {e k : Nat} {xs : List (Int × Nat)} {t : Int × Nat} {A B1 : Option Addr} {a ca c1 : Nat} {B : Option Addr} {b cb : Nat} {N : Nat} (ht : xs[k]? = some t) (hot : isOld e t = false) (x : Ext W wr) {wx : World} (xw : Ext wr wx) (hA : wr.ownsRow W.heap.size 3 1 (.slice A a ca) a (ivals (oldOf e (xs.take k)))) (hB : wr.ownsRow W.heap.size 127 2 (.slice B b cb) b (things (stayOf e (xs.take k))))
    (hne : ∀ q, (Value.slice A a ca).ownBlock = some q → (Value.slice B b cb).ownBlock ≠ some q) (ha : a ≤ k) (hb : b ≤ k) (h1 : w1.ownsRow W.heap.size 127 2 (.slice B1 (b + 1) c1) (b + 1) (things (stayOf e (xs.take k) ++ [t]))) (g : wx.grownBy w1 (Value.slice B b cb).ownBlock) (hN : wx.heap.size = N) (hb1 : (Value.slice B1 (b + 1) c1).ownBlock = (Value.slice B b cb).ownBlock ∨ (Value.slice B1 (b + 1) c1).ownBlock = some N) :
    CollAt W e (k + 1) xs (.slice A a ca) (.slice B1 (b + 1) c1) w1 := by
  have hh := stay_succ ht hot
  have hAx := own_ext hA xw
  have hne' : (Value.slice A a ca).ownBlock = none ∨ (Value.slice A a ca).ownBlock ≠ (Value.slice B b cb).ownBlock := by
    cases hq : (Value.slice A a ca).ownBlock with
    | none => exact .inl rfl
    | some q => exact .inr fun h => hne q hq h.symm
  refine ⟨A, a, ca, B1, b + 1, c1, rfl, rfl, by rw [hh.1]; exact hAx.kept g hne', by rw [hh.2]; exact h1, by omega, by omega, fun q hq1 hq2 => ?_, (x.trans xw).grown g (fun q hq => (hB.lt q hq).1)⟩
  rcases hb1 with h | h
  · exact hne q hq1 (h ▸ hq2)
  · rw [h] at hq2
    injection hq2 with hq2
    have := (hAx.lt q hq1).2
    omega
theorem own_set {w : World} {base g i : Nat} {e : TypeId} {z : Nat} {A : Option Addr} {n c : Nat} {u : Value} {xs : List Value} (h : w.ownsRow base e z (.slice A n c) n xs) (hg : g < base) : (w.setCell ⟨g, i, none⟩ u).ownsRow base e z (.slice A n c) n xs :=
  GB.own ((GB.refl w (· = g)).set g i u (.inl rfl)) h (fun q hq e => by have := (h.lt q hq).1; omega)
set_option maxHeartbeats 2000000 in
set_option maxRecDepth 100000 in
theorem ecollect_any (w : World) (C F : Nat → Prop) (gx gm n who ee : Nat) (L : List AccE) (s : ESt) (h : EpAt w C F gx gm n L s) (hw : who < n) (_hee : ee ≤ 1000000) (hlen : (s.wk who).held.length ≤ 1000000) (hep : ∀ t ∈ (s.wk who).held, t.2 ≤ 1000000) :
    Calls Try.prog 84 #[.pointer (some ⟨gx, 0, none⟩), .int .i64 (who : Int), .int .u64 (ee : Int)] w (CloSt w C F gx gm n who L.length (s.put who { s.wk who with held := stayOf ee (s.wk who).held }) .idle true 0 (oldOf ee (s.wk who).held).length (oldOf ee (s.wk who).held)) := by
  obtain ⟨W, hW⟩ : ∃ W, w.alloc (.cells #[.bool false, .int .i64 0, .int .i64 0, .slice none 0 0] 36) = W := ⟨_, rfl⟩
  have xW : Ext w W := by rw [← hW]; exact (Ext.refl w).alloc _
  have KR := Lib.hid (show W.heap[w.heap.size]? = some (.cells #[.bool false, .int .i64 0, .int .i64 0, .slice none 0 0] 36 (0, 0)) by rw [← hW]; exact blk_new w _)
  have hE := h.ext xW
  obtain ⟨gw, f, B0, c, x1, hCx, hCw, -, -, -, xh, xfr, -, ho, hoC, -⟩ := hE.wk hw
  have xf := xfr (who * 3 + 2)
  have PUT := Lib.hid (fun (w3 : World) (B' : Option Addr) (c' : Nat) (l' : List (Int × Nat)) g ho hq => hE.put_held' (w3 := w3) (B' := B') (c' := c') (l' := l') hw x1 xh g ho hq)
  obtain ⟨xs, hxs⟩ : ∃ xs, (s.wk who).held = xs := ⟨_, rfl⟩
  rw [hxs] at xh ho hlen hep hoC ⊢
  rw [hxs] at PUT
  obtain ⟨m, hm⟩ : ∃ m, xs.length = m := ⟨_, rfl⟩
  have Hm := Lib.hid hm
  rw [hm] at xh ho hlen hoC PUT
  have HO := Lib.hid ho
  have HLT := Lib.hid h.lt; have hsub := Lib.hid h.sub
  have hgw : gw < W.heap.size := World.block_lt_of_cell? W _ xh
  have hrg : w.heap.size ≠ gw := fun e => Nat.lt_irrefl _ (HLT.out _ (hsub.out _ (e ▸ hCw)))
  have HEP := Lib.hid hep
  clear ho hE h hxs hm hep xfr hoC
  go_enter Try.func84, Try.ntmps84
  go_wp2_with fail
  (try rw [hW])
  clear hW
  go_loopw [9, 10, 24] (fun v9 v10 i wr => ∃ k, k ≤ m ∧ i = .int .i64 (k : Int) ∧ CollAt W ee k xs v9 v10 wr) (fun _ _ i _ => m - (intOf i).toNat)
  case atStart => exact ⟨0, Nat.zero_le _, rfl, none, 0, 0, none, 0, 0, rfl, rfl, World.ownsRow_nil _ _ _ _, World.ownsRow_nil _ _ _ _, Nat.le_refl _, Nat.le_refl _, (fun q e => by cases e), Ext.refl W⟩
  case round =>
    obtain ⟨k, hk, rfl, A, a, ca, B, b, cb, rfl, rfl, hA, hB, ha, hb, hne, hx⟩ := hrel
    by_cases hlt : k < m
    · obtain ⟨t, ht⟩ : ∃ t, xs[k]? = some t := ⟨_, List.getElem?_eq_getElem (by rw [Hm.out]; exact hlt)⟩
      obtain ⟨bb, hbb, c0, c1⟩ := own_thing HO.out ht
      have d0 := ext_cell hx c0; have d1 := ext_cell hx c1
      subst hbb
      have ht2 : t.2 ≤ 1000000 := HEP.out t (List.mem_of_getElem? ht)
      have hwr : IntKind.u64.wrap ((t.2 : Int) + 2) = (t.2 : Int) + 2 := by rw [IntKind.wrap_u64]; omega
      have Ht := Lib.hid ht; have HX := Lib.hid hx; have HA := Lib.hid hA; have HB := Lib.hid hB; have HN := Lib.hid hne
      have hs : W.heap.size ≤ wr.heap.size := hx.size
      clear ht hx hA hB hne c0 c1
      by_cases hot : t.2 + 2 ≤ ee
      · have q1 : (t.2 : Int) + 2 ≤ (ee : Int) := by omega
        have HOT := Lib.hid (show isOld ee t = true from decide_eq_true hot)
        clear hot
        go_wp2_with (at_builtin; refine app_int _ rfl (.tmp 33) (.tmp 36) rfl W.heap.size rfl ((HA.out.alloc _).alloc _) rfl (m := 1) (news := [t.1]) rfl (rd_newk (wr.alloc _) [.int .i64 t.1] _ (by simp)) (by omega) (by rw [World.size_alloc, World.size_alloc]; omega) ?_; intro A1 c1 w1 hown1 hgrow1 hb1; have CO := Lib.hid (coll_old Ht.out HOT.out HX.out (((Ext.refl wr).alloc _).alloc _) HA.out HB.out HN.out ha hb hown1 hgrow1 rfl hb1); clear hown1 hgrow1 hb1)
        go_roundw
        case rel => exact ⟨k + 1, hlt, by go_num, CO.out⟩
        case measure => simp [intOf]; omega
      · have q1 : ¬ (t.2 : Int) + 2 ≤ (ee : Int) := by omega
        have HOT := Lib.hid (show isOld ee t = false from decide_eq_false hot)
        clear hot
        go_wp2_with (at_builtin; refine app_thing _ rfl (.tmp 38) (.tmp 40) rfl W.heap.size rfl ((HB.out.alloc _).alloc _) t rfl (rd_newk (wr.alloc _) (tcells t) _ (by simp)) (by omega) (by rw [World.size_alloc, World.size_alloc]; omega) ?_; intro A1 c1 w1 hown1 hgrow1 hb1; have CO := Lib.hid (coll_stay Ht.out HOT.out HX.out (((Ext.refl wr).alloc _).alloc _) HA.out HB.out HN.out ha hb hown1 hgrow1 rfl hb1); clear hown1 hgrow1 hb1)
        go_roundw
        case rel => exact ⟨k + 1, hlt, by go_num, CO.out⟩
        case measure => simp [intOf]; omega
    · obtain rfl : k = m := by omega
      rw [List.take_of_length_le (by rw [Hm.out]; exact Nat.le_refl _)] at hA hB
      have hla : (oldOf ee xs).length = a := by have := hA.1; rw [ivals_len] at this; omega
      have hlb : (stayOf ee xs).length = b := own_len hB
      have g0 : GB W wr (fun i => (Value.slice B0 k c).ownBlock = some i) := GB.of_ext _ hx
      have hW1 : gw + 1 ≤ W.heap.size := hgw
      subst hlb
      have HP := Lib.hid (PUT.out wr B cb (stayOf ee xs) g0 (own_base hB hW1) (fun q hq => .inr (hB.lt q hq).1))
      have HA := Lib.hid hA
      have xh' := ext_cell hx xh
      have xf' := frz_ext hx xh xf
      have KW := blk_ext KR.out hx
      have KR4 := blk_grown KW (grown_set wr gw (who * 3 + 2) (.slice B (stayOf ee xs).length cb)) hrg
      have r0 := blk_cell KR4 0; have r1 := blk_cell KR4 1; have r2 := blk_cell KR4 2; have r3 := blk_cell KR4 3
      have z0 := blk_frozen KR4 0; have z1 := blk_frozen KR4 1; have z2 := blk_frozen KR4 2; have z3 := blk_frozen KR4 3
      have K4 := Lib.hid KR4
      have HNE := Lib.hid hne
      have HBq := Lib.hid (fun q hq => (hB.lt q hq))
      have HX := Lib.hid hx
      clear KR4 KW hA hB g0 hne hx xh xf x1
      go_wp2_with fail
      refine bodyPost_ret (results_tmp_row (p := 7) (u := 6) rfl _ _ w.heap.size _ #[.bool true, .int .i64 0, .int .i64 (a : Int), .slice A a ca] (0, 0) _ rfl (row4 K4.out _ _ _ _) Try.underlying36 (by rfl) (by kernel_rfl)) rfl ?_
      refine ⟨L, rfl, ?_⟩
      rw [hla]
      obtain ⟨C', F', y1, y2, y3, y4, y5⟩ := HP.out
      refine eclo_put xW (blk_lt KR.out) HLT.out hsub.out _ _ _ _ ⟨.nilFunc, A, a, ca, C', F', rfl, y1, rfl, y2, y3, y4, fun i hi => (y5 i hi).imp id (fun e => (HBq.out i e).1), own_set HA.out (Nat.lt_of_lt_of_le hgw (Nat.le_refl _)), fun q hq hF => ?_⟩
      have hq2 := HA.out.lt q hq
      rcases y5 q hF with e | e
      · have := HLT.out q e; have := xW.size; omega
      · exact HNE.out q hq e
end Go.Proofs.Ytlgggeeflomelaa
