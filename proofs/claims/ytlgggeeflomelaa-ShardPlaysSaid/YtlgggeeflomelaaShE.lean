/- shard: the function that swaps. -/
import Derived.Test.YtlgggeeflomelaaShD
namespace Go.Proofs.Ytlgggeeflomelaa
open Go.RowKit

set_option maxHeartbeats 4000000 in
set_option maxRecDepth 100000 in
theorem sswap_hit (w : World) (C F : Nat → Prop) (gx gb who op : Nat) (key : List Nat) (val : Int) (m : List Ent) (n : Int) (L : List AccE) (s : SSt) (f : Value) (h : ShAt w C F gx gb L s) (hL : L.length ≤ 100000) (hw : who < 64) (hv : s.ver ≤ 1000000)
    (hp : PendS w C F gx who f (.swap op key val s.ver m n)) :
    ∃ p0 p1 p2 p3 p4, f = .func (.func 95) #[] #[p0, p1, p2, p3, p4] ∧ Calls Try.prog 95 #[p0, p1, p2, p3, p4] w (SClo w C F gx gb who (L.length + 1) { s with ver := s.ver + 1, lst := m } .idle true 0 n) := by
  have hmf := hmfC
  obtain ⟨p0, p1, p2, p3, p4, A, c, ks, rfl, k0, k1, k2, k3, c4, k4⟩ := hp
  refine ⟨p0, p1, p2, p3, p4, rfl, ?_⟩
  have K0 := Lib.hid k0; have K1 := Lib.hid k1
  obtain ⟨b0, rfl, c0, n0, f0⟩ := k0.cell
  obtain ⟨b1, t1', K, d, rfl, kb1, n1, f1, hkd, hrk, hKF⟩ := k1
  obtain ⟨b2, rfl, c2, n2, f2⟩ := k2.cell
  obtain ⟨b3, rfl, c3, n3, f3⟩ := k3.cell
  obtain ⟨b4, rfl, c5, n4, f4⟩ := k4.cell
  have Hlt := Lib.hid h.lt; have Hsub := Lib.hid h.sub
  obtain ⟨W, hW⟩ : ∃ W, w.alloc (.cells #[.bool false, .int .i64 0, .int .i64 0] 74) = W := ⟨_, rfl⟩
  have xW : Ext w W := by rw [← hW]; exact (Ext.refl w).alloc _
  have KR := Lib.hid (show W.heap[w.heap.size]? = some (.cells #[.bool false, .int .i64 0, .int .i64 0] 74 (0, 0)) by rw [← hW]; exact blk_new w _)
  obtain ⟨vn, hvn⟩ : ∃ x, s.ver + 1 = x := ⟨_, rfl⟩
  have hwr : IntKind.u64.wrap ((s.ver : Int) + 1) = (vn : Int) := by rw [IntKind.wrap_u64]; omega
  have SW := Lib.hid (fun (u : World) (hx : Ext W u) => bswap_hit u C F gx gb who L s (vn : Int) (by rw [← hvn]) A m.length c m ks (h.ext (xW.trans hx)) hL hw (c4.gb (GB.of_ext (fun _ => False) (xW.trans hx)) (fun _ e => e.elim) (fun _ _ e => .inl e) (fun _ e => e) h.lt) rfl)
  have HltW := Lib.hid (fun i hi => Nat.lt_trans (Hlt.out i hi) (blk_lt KR.out))
  have d0 := ext_cell xW c0
  have d1 : W.cell? ⟨b1, 0, none⟩ = some (.int .i64 (who : Int)) := ext_cell xW (blk_cell kb1 0)
  have dc := ext_cell xW h.gx0
  have d2 := ext_cell xW c2
  have d3 := ext_cell xW c3
  have D4 := Lib.hid (ext_cell xW c5)
  have KB1 := Lib.hid (blk_ext kb1 xW)
  have HKF := Lib.hid hKF
  have HRK := Lib.hid (hrk.ext xW)
  have XW := Lib.hid xW
  have Hvn := Lib.hid hvn
  have hrW : w.heap.size < W.heap.size := blk_lt KR.out
  clear c0 kb1 hrk hKF h k0 c2 c3 c4 c5 k2 k3 k4 hvn
  go_enter Try.func95, Try.ntmps95
  go_upto_region 1 with fail
  (try rw [hW])
  clear hW
  go_region_held3 (fun w' => w'.cell? ⟨b0, 0, none⟩ = some (.pointer (some ⟨gx, 0, none⟩)) ∧ w'.cell? ⟨b1, 0, none⟩ = some (.int .i64 (who : Int)) ∧ w'.cell? ⟨gx, 0, none⟩ = some (.pointer (some ⟨gb, 0, none⟩)) ∧ w'.cell? ⟨b2, 0, none⟩ = some (.int .u64 (s.ver : Int)) ∧ w'.cell? ⟨b3, 0, none⟩ = some (.slice A m.length c))
    (((try go_split_ands); refine ⟨?_, ?_, ?_, ?_, ?_⟩ <;> first | assumption | (with_reducible exact drew_cell d0) | (with_reducible exact drew_cell d1) | (with_reducible exact drew_cell dc) | (with_reducible exact drew_cell d2) | (with_reducible exact drew_cell d3) | (with_reducible exact t0) | (with_reducible exact t1) | (with_reducible exact tc) | (with_reducible exact t2) | (with_reducible exact t3) | (with_reducible exact drew_cell t0) | (with_reducible exact drew_cell t1) | (with_reducible exact drew_cell tc) | (with_reducible exact drew_cell t2) | (with_reducible exact drew_cell t3)))
    ((go_at_call 61; (with_reducible refine (SW.out W.drew (Ext.refl W).drew).mono ?_); rintro e w2 ⟨rfl, hg⟩; have HG := Lib.hid (ShGo.back (Ext.refl W).drew hg); obtain ⟨_, _, m2, g2, _⟩ := HG.out; have t0 := g2.cell d0 n0; have t1 := g2.cell d1 n1; have tc := m2.gx0; have t2 := g2.cell d2 n2; have t3 := g2.cell d3 n3; clear g2 m2 hg))
  all_goals
    obtain ⟨C', F', hSh, hG, g1, g2, g3⟩ := HG.out
    have KR2 := Lib.hid (hG.blk KR.out (fun e => Nat.lt_irrefl _ (Hlt.out _ (Hsub.out _ e))))
    have KBd := Lib.hid (hG.blk KB1.out n1)
    have t4 := hG.cell D4.out n4
    have hNL : ∀ a : AccE, (L ++ [a]).length ≤ L.length + 1 := fun a => by simp
    clear d0 d1 dc d2 d3
    clear t0 t1 tc t2 t3
    go_wp2_with fail
    refine (send_any 0 n _).mono ?_
    rintro e w4 ⟨rfl, x4⟩
    have KR4 := blk_ext KR2.out x4
    have r0 := blk_cell KR4 0; have r1 := blk_cell KR4 1; have r2 := blk_cell KR4 2
    have z0 := blk_frozen KR4 0; have z1 := blk_frozen KR4 1; have z2 := blk_frozen KR4 2
    have K4 := Lib.hid KR4
    clear KR4 t4
    go_wp2_with fail
    refine bodyPost_ret (results_tmp_row (p := 6) (u := 5) rfl _ _ w.heap.size _ #[.bool true, .int .i64 0, .int .i64 n] (0, 0) _ rfl (row3 K4.out _ _ _) Try.underlying74 (by rfl) (by kernel_rfl)) rfl ?_
    exact BegMid.more (cl := .idle) (v := .nilFunc) (hNL _) XW.out hrW Hlt.out hSh hG g1 g2 g3 x4 rfl _ _ _
set_option maxHeartbeats 4000000 in
set_option maxRecDepth 100000 in
theorem sswap_miss (w : World) (C F : Nat → Prop) (gx gb who op : Nat) (key : List Nat) (val : Int) (v : Nat) (m : List Ent) (n : Int) (L : List AccE) (s : SSt) (f : Value) (h : ShAt w C F gx gb L s) (hL : L.length ≤ 100000) (hw : who < 64) (hv : s.ver ≤ 1000000)
    (hp : PendS w C F gx who f (.swap op key val v m n)) (hne : s.ver ≠ v) (hvv : v ≤ s.ver) :
    ∃ p0 p1 p2 p3 p4, f = .func (.func 95) #[] #[p0, p1, p2, p3, p4] ∧ Calls Try.prog 95 #[p0, p1, p2, p3, p4] w (SClo w C F gx gb who (L.length + 1) s (.begun op key val) false 0 0) := by
  have hmf := hmfC
  obtain ⟨p0, p1, p2, p3, p4, A, c, ks, rfl, k0, k1, k2, k3, c4, k4⟩ := hp
  refine ⟨p0, p1, p2, p3, p4, rfl, ?_⟩
  have K0 := Lib.hid k0; have K1 := Lib.hid k1
  obtain ⟨b0, rfl, c0, n0, f0⟩ := k0.cell
  obtain ⟨b1, t1', K, d, rfl, kb1, n1, f1, hkd, hrk, hKF⟩ := k1
  obtain ⟨b2, rfl, c2, n2, f2⟩ := k2.cell
  obtain ⟨b3, rfl, c3, n3, f3⟩ := k3.cell
  obtain ⟨b4, rfl, c5, n4, f4⟩ := k4.cell
  have Hlt := Lib.hid h.lt; have Hsub := Lib.hid h.sub
  obtain ⟨W, hW⟩ : ∃ W, w.alloc (.cells #[.bool false, .int .i64 0, .int .i64 0] 74) = W := ⟨_, rfl⟩
  have xW : Ext w W := by rw [← hW]; exact (Ext.refl w).alloc _
  have KR := Lib.hid (show W.heap[w.heap.size]? = some (.cells #[.bool false, .int .i64 0, .int .i64 0] 74 (0, 0)) by rw [← hW]; exact blk_new w _)
  obtain ⟨vn, hvn⟩ : ∃ x, v + 1 = x := ⟨_, rfl⟩
  have hwr : IntKind.u64.wrap ((v : Int) + 1) = (vn : Int) := by rw [IntKind.wrap_u64]; omega
  have SW := Lib.hid (fun (u : World) (hx : Ext W u) => bswap_miss u C F gx gb who v L s (vn : Int) (by rw [← hvn]) A m.length c (h.ext (xW.trans hx)) hL hw hne)
  have HltW := Lib.hid (fun i hi => Nat.lt_trans (Hlt.out i hi) (blk_lt KR.out))
  have d0 := ext_cell xW c0
  have d1 : W.cell? ⟨b1, 0, none⟩ = some (.int .i64 (who : Int)) := ext_cell xW (blk_cell kb1 0)
  have dc := ext_cell xW h.gx0
  have d2 := ext_cell xW c2
  have d3 := ext_cell xW c3
  have D4 := Lib.hid (ext_cell xW c5)
  have KB1 := Lib.hid (blk_ext kb1 xW)
  have HKF := Lib.hid hKF
  have HRK := Lib.hid (hrk.ext xW)
  have XW := Lib.hid xW
  have Hvn := Lib.hid hvn
  have hrW : w.heap.size < W.heap.size := blk_lt KR.out
  clear c0 kb1 hrk hKF h k0 c2 c3 c4 c5 k2 k3 k4 hvn hne
  go_enter Try.func95, Try.ntmps95
  go_upto_region 1 with fail
  (try rw [hW])
  clear hW
  go_region_held3 (fun w' => w'.cell? ⟨b0, 0, none⟩ = some (.pointer (some ⟨gx, 0, none⟩)) ∧ w'.cell? ⟨b1, 0, none⟩ = some (.int .i64 (who : Int)) ∧ w'.cell? ⟨gx, 0, none⟩ = some (.pointer (some ⟨gb, 0, none⟩)) ∧ w'.cell? ⟨b2, 0, none⟩ = some (.int .u64 (v : Int)) ∧ w'.cell? ⟨b3, 0, none⟩ = some (.slice A m.length c))
    (((try go_split_ands); refine ⟨?_, ?_, ?_, ?_, ?_⟩ <;> first | assumption | (with_reducible exact drew_cell d0) | (with_reducible exact drew_cell d1) | (with_reducible exact drew_cell dc) | (with_reducible exact drew_cell d2) | (with_reducible exact drew_cell d3) | (with_reducible exact t0) | (with_reducible exact t1) | (with_reducible exact tc) | (with_reducible exact t2) | (with_reducible exact t3) | (with_reducible exact drew_cell t0) | (with_reducible exact drew_cell t1) | (with_reducible exact drew_cell tc) | (with_reducible exact drew_cell t2) | (with_reducible exact drew_cell t3)))
    ((go_at_call 61; (with_reducible refine (SW.out W.drew (Ext.refl W).drew).mono ?_); rintro e w2 ⟨rfl, hg⟩; have HG := Lib.hid (ShGo.back (Ext.refl W).drew hg); obtain ⟨_, _, m2, g2, _⟩ := HG.out; have t0 := g2.cell d0 n0; have t1 := g2.cell d1 n1; have tc := m2.gx0; have t2 := g2.cell d2 n2; have t3 := g2.cell d3 n3; clear g2 m2 hg))
  all_goals
    obtain ⟨C', F', hSh, hG, g1, g2, g3⟩ := HG.out
    have KR2 := Lib.hid (hG.blk KR.out (fun e => Nat.lt_irrefl _ (Hlt.out _ (Hsub.out _ e))))
    have KBd := Lib.hid (hG.blk KB1.out n1)
    have t4 := hG.cell D4.out n4
    have hNL : ∀ a : AccE, (L ++ [a]).length ≤ L.length + 1 := fun a => by simp
    clear d0 d1 dc d2 d3
    have q0 : w2.cell? ⟨b1, 0, none⟩ = some (.int .i64 (who : Int)) := blk_cell KBd.out 0
    have q1 : w2.cell? ⟨b1, 1, none⟩ = some (.int .u8 (op : Int)) := blk_cell KBd.out 1
    have q2 : w2.cell? ⟨b1, 2, none⟩ = some (.slice K key.length d) := blk_cell KBd.out 2
    have q3 : w2.cell? ⟨b1, 3, none⟩ = some (.int .i64 val) := blk_cell KBd.out 3
    go_wp2_with fail
    refine (sbegin_any gx who op K key.length d val _).mono ?_
    rintro e w4 ⟨ta, tb, rfl, ka, kb, x4⟩
    have KR4 := blk_ext KR2.out x4
    have r0 := blk_cell KR4 0; have r1 := blk_cell KR4 1; have r2 := blk_cell KR4 2
    have z0 := blk_frozen KR4 0; have z1 := blk_frozen KR4 1; have z2 := blk_frozen KR4 2
    have K4 := Lib.hid KR4
    have KA := Lib.hid ka; have KB := Lib.hid kb
    clear KR4 t4 t0 t1 tc t2 t3 q0 q1 q2 q3 ka kb
    go_wp2_with fail
    refine bodyPost_ret (results_tmp_row (p := 6) (u := 5) rfl _ _ w.heap.size _ #[.bool false, .int .i64 0, .int .i64 0] (0, 0) _ rfl (row3 K4.out _ _ _) Try.underlying74 (by rfl) (by kernel_rfl)) rfl ?_
    refine BegMid.more (cl := .begun op key val) (hNL _) XW.out hrW Hlt.out hSh hG g1 g2 g3 x4 ?_ _ _ _
    have hFlt := hSh.lt
    have hsub := hSh.sub
    have hzd : W.heap.size ≤ w2.heap.size := hG.size
    have hla := blk_lt KA.out; have hlb := blk_lt KB.out
    have hnC : ∀ q, w2.heap.size ≤ q → ¬ C' q := fun q h e => by have := hFlt _ (hsub _ e); omega
    have hCC : ∀ i, i < W.heap.size → C' i → C i ∨ ¬ F i := fun i hi e => (g1 i e).elim .inl (fun h => absurd hi (Nat.not_lt.2 h))
    refine ⟨_, _, rfl, ⟨w2.heap.size, ta, rfl, KA.out, hnC _ (Nat.le_refl _), .inr ⟨hzd, hla⟩⟩, ⟨w2.heap.size + 1, tb, K, d, rfl, KB.out, hnC _ (by omega), .inr ⟨by omega, hlb⟩, hkd, ?_, fun a ha => ?_⟩⟩
    · exact (rd_gb HRK.out HKF.out hG (fun i hi => .inl hi) HltW.out).ext x4
    · have h9 := HKF.out a ha
      exact ⟨fun e => (hCC _ (HltW.out _ h9.2) e).elim h9.1 (fun h => h h9.2), .inl (g2 _ h9.2)⟩
end Go.Proofs.Ytlgggeeflomelaa
