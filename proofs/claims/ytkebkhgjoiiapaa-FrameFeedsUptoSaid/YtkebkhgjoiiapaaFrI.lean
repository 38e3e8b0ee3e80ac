/- The document's DocFeed. -/
import Derived.Test.YtkebkhgjoiiapaaFrH
import Derived.Test.YtkebkhgjoiiapaaFrS
namespace Go.Proofs.Ytkebkhgjoiiapaa
open Go.RowKit

theorem size_bb : ∀ u : World, (sizeOf 22).run Try.prog u = .ok 1 u := fun _ => by kernel_rfl
/-- what DocFeed leaves; al: all that came -/
def FeedD (al : List Nat) (told : Nat) (w : World) (base d : Nat) (D : Nat → Prop) (e : Ending) (w' : World) : Prop :=
  ∃ B c D', e = .returned (.tuple #[.slice B ((parse al).1.length - told) c, .int .i64 (endF al)]) ∧ RdBB w' B ((parse al).1.drop told) ∧ IsDoc w' base d D' al (parse al).1.length (parse al).2.2 ∧ GB w w' D ∧ (∀ i, D' i → D i ∨ w.heap.size ≤ i)
theorem RdBB.cut {w : World} {A A' : Option Addr} {pss : List (List Nat)} {n k : Nat} (h : RdBB w A pss) (hl : pss.length = n) (hA : ∀ (w : World) (vs : List Value), vs.length = n * 1 → Rd w A vs → Rd w A' (vs.drop (k * 1))) : RdBB w A' (pss.drop k) := by
  obtain ⟨vs, hv, hr, hall⟩ := h
  refine ⟨vs.drop k, by rw [List.length_drop, List.length_drop, hv], by have := hA w vs (by omega) hr; rwa [Nat.mul_one] at this, fun i ps hi => ?_⟩
  rw [List.getElem?_drop] at hi ⊢
  exact hall _ ps hi
theorem RdBB.set {w : World} {A : Option Addr} {pss : List (List Nat)} (h : RdBB w A pss) {S : Nat → Prop} {w' : World} (g : GB w w' S) (hA : ∀ a, A = some a → ¬ S a.block) (hB : ∀ (i : Nat) (ps : List Nat) (vs : List Value), Rd w A vs → vs.length = pss.length → pss[i]? = some ps → ∀ Ai ci, vs[i]? = some (Value.slice Ai ps.length ci) → ∀ a, Ai = some a → ps ≠ [] → ¬ S a.block) : RdBB w' A pss := by
  obtain ⟨vs, hv, hr, hall⟩ := h
  refine ⟨vs, hv, g.rd hr hA, fun i ps hi => ?_⟩
  obtain ⟨Ai, ci, h1, h2, h3⟩ := hall i ps hi
  refine ⟨Ai, ci, h1, h2, ?_⟩
  by_cases hps : ps = []
  · subst hps; exact Rd.nil _ _
  · exact g.rd h3 (fun a ha => hB i ps vs hr hv hi Ai ci h1 a ha hps)
/-- a list whose rows all lie from base on, behind a store elsewhere -/
theorem PL.gbn {w w' : World} {base : Nat} {A : Option Addr} {n c : Nat} {pss : List (List Nat)} {S : Nat → Prop} (h : PL w base A n c pss) (g : GB w w' S) (hs : ∀ i, S i → i < base) : PL w' base A n c pss := by
  obtain ⟨hl, vs, gs, ho, h1, h2, h3, h4⟩ := h
  refine ⟨hl, vs, gs, g.own ho (fun q e e' => by have := (ho.lt q e).1; have := hs q e'; omega), h1, h2, fun x hx => Nat.lt_of_lt_of_le (h3 x hx) g.size, fun i ps hi => ?_⟩
  obtain ⟨x, ci, k1, k2, k3⟩ := h4 i ps hi
  exact ⟨x, ci, k1, k2, g.own k3 (fun q e e' => by have := (k3.lt q e).1; have := hs q e'; omega)⟩
set_option maxRecDepth 100000 in
set_option maxHeartbeats 2000000 in
theorem docFeed_open (w : World) (base d told : Nat) (D : Nat → Prop) (all : List Nat) (P : Option Addr) (np cp : Nat) (xs : List Nat) (h : IsDoc w base d D all told false) (hb : ∀ x ∈ all, x < 256) (hl : xs.length = np) (hbx : ∀ x ∈ xs, x < 256) (hr : Rd w P (vals .u8 xs))
    (hN : all.length + np ≤ 4000000000000) (htold : told ≤ (parse (all ++ xs)).1.length) (hbase : base ≤ w.heap.size) :
    Calls Try.prog 26 #[.pointer (some ⟨d, 0, none⟩), .slice P np cp] w (FeedD (all ++ xs) told w base d D) := by
  obtain ⟨A, n, c, h1, h2, h3, h4, h5, h6⟩ := h
  have hdl := blk_lt h1
  have c0 : w.cell? ⟨d, 0, none⟩ = some (.slice A n c) := blk_cell h1 0
  have c2 : w.cell? ⟨d, 2, none⟩ = some (.bool false) := blk_cell h1 2
  have H1 := Lib.hid h1; have H2 := Lib.hid h2; have H3 := Lib.hid h3; have H4 := Lib.hid h4; have H5 := Lib.hid h5; have H6 := Lib.hid h6; have Hl := Lib.hid hl; have Hr := Lib.hid hr; have Hbx := Lib.hid hbx; have Hb := Lib.hid hb
  have hn4 : n + np ≤ 4000000000000 := by rw [← h2]; exact hN
  clear h1 h2 h3 h4 h5 h6 hl hr hbx hb hN
  have hal : (all ++ xs).length = n + np := by rw [List.length_append, H2.out, Hl.out]
  have hbal : ∀ x ∈ all ++ xs, x < 256 := fun x hx => (List.mem_append.1 hx).elim (Hb.out x) (Hbx.out x)
  have HAL := Lib.hid hal; have HBAL := Lib.hid hbal
  clear hal hbal
  obtain ⟨m, hm⟩ : ∃ m, (parse (all ++ xs)).1.length = m := ⟨_, rfl⟩
  rw [hm] at htold
  have HM := Lib.hid hm
  have hm4 : m ≤ 4000000000000 := by
    have h9 := (parse_small ((all ++ xs).length + 1) (all ++ xs) (by omega)).1
    have := HAL.out
    omega
  have hsum : IntKind.i64.wrap ((told : Int) + ((m - told : Nat) : Int)) = (m : Int) := by rw [IntKind.wrap_i64]; omega
  obtain ⟨mt, hmt⟩ : ∃ mt, m - told = mt := ⟨_, rfl⟩
  rw [hmt] at hsum
  have HMT := Lib.hid hmt
  clear hm hmt
  go_enter Try.func26, Try.ntmps26
  go_wp2_with (first | (at_builtin; refine app_u8 _ rfl (.tmp 19) (.tmp 20) rfl base rfl H3.out rfl Hl.out Hr.out (by omega) hbase ?_; intro B1 cb1 w1 hown1 hgrow1 hblk1; have g1 : GB w w1 (fun i => (Value.slice A n c).ownBlock = some i) := (GB.refl w _).grown hgrow1 (fun q e => .inl e); have hnd : ¬ (Value.slice A n c).ownBlock = some d := fun e => (H4.out d e).2 rfl; have k1 := Lib.hid (g1.blk H1.out hnd); have d0 := blk_cell k1.out 0; have f0 := blk_frozen k1.out 0) | fail)
  have hne1 : ∀ q, (Value.slice B1 (n + np) cb1).ownBlock = some q → q ≠ d ∧ (D q ∨ w.heap.size ≤ q) := fun q e => by
    rcases hblk1 with hb | hb
    · rw [hb] at e; exact ⟨(H4.out q e).2, .inl (H4.out q e).1⟩
    · rw [hb] at e; injection e with e; exact ⟨by omega, .inr (by omega)⟩
  have gs : GB w1 (w1.setCell ⟨d, 0, none⟩ (.slice B1 (n + np) cb1)) (· = d) := (GB.refl w1 (· = d)).set d 0 _ (.inl rfl)
  have ho2 := gs.own hown1 (fun q e e' => (hne1 q e).1 e')
  have FR := Lib.hid (frames_any (w1.setCell ⟨d, 0, none⟩ (.slice B1 (n + np) cb1)) B1 (n + np) cb1 (all ++ xs) HAL.out (own_cap ho2) HBAL.out (Rd.of_own ho2) (by omega))
  have K2 := Lib.hid (blk_set k1.out 0 (.slice B1 (n + np) cb1))
  have G2 := Lib.hid (show GB w (w1.setCell ⟨d, 0, none⟩ (.slice B1 (n + np) cb1)) D from (g1.more (fun i _ e => (H4.out i e).1)).trans gs (fun i e => .inl (e ▸ H5.out)))
  obtain ⟨W2, hW2⟩ : ∃ W2, w1.setCell ⟨d, 0, none⟩ (.slice B1 (n + np) cb1) = W2 := ⟨_, rfl⟩
  rw [hW2] at ho2 FR K2 G2
  have HO2 := Lib.hid ho2; have HNE := Lib.hid hne1
  have e0 : W2.cell? ⟨d, 0, none⟩ = some (.slice B1 (n + np) cb1) := blk_cell K2.out 0
  (try rw [hW2])
  clear hW2 gs ho2 hne1 hown1 hgrow1 hblk1 g1 hnd k1 d0 f0 c0 c2
  go_wp2_with fail
  refine FR.out.mono ?_
  rintro e w3 ⟨L, m3, k3, rfl, hP, hx3⟩
  obtain rfl : m3 = m := by have h9 := hP.1; rw [HM.out] at h9; exact h9.symm
  obtain ⟨L', hsl, hrd, _, _⟩ := slice_from_s (P := Try.prog) (s := 1) Try.underlying26 size_bb (A := L) (n := m3) (c := k3) (m := mt) (d := k3 - told) told rfl (by obtain ⟨_, vs, gs, ho, _⟩ := hP; exact own_cap ho) (by have := HMT.out; omega) (by obtain ⟨_, vs, gs, ho, _⟩ := hP; have := own_cap ho; omega)
  have K3 := Lib.hid (blk_ext K2.out hx3)
  have s1 : w3.cell? ⟨d, 1, none⟩ = some (.int .i64 (told : Int)) := blk_cell K3.out 1
  have z1 := blk_frozen K3.out 1
  obtain ⟨bad, hbad⟩ : ∃ bad, (parse (all ++ xs)).2.2 = bad := ⟨_, rfl⟩
  rw [hbad]
  have HBAD := Lib.hid hbad; have HP := Lib.hid hP; have HX3 := Lib.hid hx3; have HRD := Lib.hid hrd
  clear hbad hP hx3 hrd
  have hd2 : d < W2.heap.size := blk_lt K2.out
  have hdm : ((parse (all ++ xs)).1).length - told = mt := by rw [HM.out]; exact HMT.out
  have g31 : GB w3 (w3.setCell ⟨d, 1, none⟩ (.int .i64 (m3 : Int))) (· = d) := (GB.refl w3 (· = d)).set d 1 _ (.inl rfl)
  have K4 := Lib.hid (blk_set K3.out 1 (.int .i64 (m3 : Int)))
  have z2 := blk_frozen K4.out 2
  have y2 : (w3.setCell ⟨d, 1, none⟩ (.int .i64 (m3 : Int))).cell? ⟨d, 2, none⟩ = some (.bool false) := blk_cell K4.out 2
  have HDM := Lib.hid hdm
  have hWw : w.heap.size ≤ W2.heap.size := G2.out.size
  have hbW : base ≤ W2.heap.size := Nat.le_trans hbase hWw
  obtain ⟨D', hD'⟩ : ∃ D' : Nat → Prop, ∀ i, D' i ↔ (D i ∨ (Value.slice B1 (n + np) cb1).ownBlock = some i) := ⟨_, fun _ => Iff.rfl⟩
  have FIN : Hid (∀ (wf : World) (cl : Bool), GB w3 wf (· = d) → wf.heap[d]? = some (.cells #[.slice B1 (n + np) cb1, .int .i64 (m3 : Int), .bool cl] 36 (0, 0)) → cl = bad → RdBB wf L' ((parse (all ++ xs)).1.drop told) ∧ IsDoc wf base d D' (all ++ xs) (parse (all ++ xs)).1.length (parse (all ++ xs)).2.2 ∧ GB w wf D ∧ (∀ i, D' i → D i ∨ w.heap.size ≤ i)) := Lib.hid (fun wf cl gf hbf hcl => by
    subst hcl
    have hPf := HP.out.gbn gf (fun i e => by rw [e]; exact hd2)
    refine ⟨hPf.rd.cut HM.out HRD.out, ⟨B1, n + np, cb1, ?_, HAL.out, gf.own (own_ext HO2.out HX3.out) (fun q e e' => (HNE.out q e).1 e'), fun q e => ⟨(hD' q).2 (.inr e), (HNE.out q e).1⟩, (hD' d).2 (.inl H5.out), fun i hi => ?_⟩, ?_, fun i hi => ?_⟩
    · rw [HM.out, HBAD.out]; exact hbf
    · rcases (hD' i).1 hi with e | e
      · exact ⟨(H6.out i e).1, Nat.lt_of_lt_of_le (H6.out i e).2 (Nat.le_trans hWw (Nat.le_trans HX3.out.size gf.size))⟩
      · exact ⟨(HO2.out.lt i e).1, Nat.lt_of_lt_of_le (HO2.out.lt i e).2 (Nat.le_trans HX3.out.size gf.size)⟩
    · exact (G2.out.ext HX3.out).trans gf (fun i e => .inl (e ▸ H5.out))
    · rcases (hD' i).1 hi with e | e
      · exact .inl e
      · exact (HNE.out i e).2)
  cases bad with
  | false =>
    go_wp2_with fail
    go_ret2
    obtain ⟨q1, q2, q3, q4⟩ := FIN.out _ false g31 K4.out rfl
    refine ⟨L', k3 - told, D', ?_, q1, q2, q3, q4⟩
    rw [HDM.out]
    unfold endF
    rw [HBAD.out]
    rfl
  | true =>
    go_wp2_with fail
    go_ret2
    obtain ⟨q1, q2, q3, q4⟩ := FIN.out _ true (g31.set d 2 (.bool true) (.inl rfl)) (blk_set K4.out 2 _) rfl
    refine ⟨L', k3 - told, D', ?_, q1, q2, q3, q4⟩
    rw [HDM.out]
    unfold endF
    rw [HBAD.out]
    rfl
end Go.Proofs.Ytkebkhgjoiiapaa
