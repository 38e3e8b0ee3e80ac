/- WireReplies answers true. -/
import Derived.Test.YtkebkhgjoiiapaaWireAwake
import Derived.Test.YtkebkhgjoiiapaaRepC
import Derived.Laws.StructEq
namespace Go.Proofs.Ytkebkhgjoiiapaa
open Go.RowKit

set_option maxRecDepth 10000 in
theorem rep_neq (e : Int) (g : Bool) (l t s m : Int) (u : World) : (binOp .neq 82 (repV e g l t s m) (repV e g l t s m)).run Try.prog u = .ok (.bool false) u := by
  rw [run_neq_struct]
  rw [run_equalIn_agg u 9999 82 _ _ (by kernel_rfl) (by kernel_rfl)]
  simp only [Program.fieldsOf, Try.underlying82]
  go_simp

set_option maxHeartbeats 8000000 in
set_option maxRecDepth 100000 in
theorem wireReplies_walk (w : World) (e : Int) (g : Bool) (l t s m : Int) (A : Option Addr) (n c : Nat) (xs : List Nat) (hl : xs.length = n) (hb : ∀ x ∈ xs, x < 256) (hr : Rd w A (vals .u8 xs)) (hnc : n ≤ c) (hz : n ≤ 140737488351232) :
    Calls Try.prog 13 #[repV e g l t s m, .slice A n c] w (RetTrue w) := by
  obtain ⟨q, B, hI, hC1, hC2⟩ := rep_cases e g l t s m
  have hrr : ∃ (q2 e2 l2 t2 s2 m2 : Int) (g2 : Bool), ((q2 == 0) = false ∨ (q2 = 0 ∧ ∃ e' l' t' s' m' : Nat, e2 = (e' : Int) ∧ l2 = (l' : Int) ∧ t2 = (t' : Int) ∧ s2 = (s' : Int) ∧ m2 = (m' : Int) ∧ e' ≤ 16 ∧ l' ≤ 4611686018427387903 ∧ t' ≤ 4611686018427387903 ∧ s' ≤ 4611686018427387903 ∧ m' ≤ 4611686018427387903 ∧ xs = repB e' g2 [l', t', s', m'] ∧ n = 34)) ∧
      (∀ w B d, Rd w B (vals .u8 xs) → n ≤ d → Calls Try.prog 48 #[.slice B n d] w (RetE (.tuple #[repV e2 g2 l2 t2 s2 m2, .int .i64 q2]) w)) ∧ (∀ w B d, Rd w B (vals .u8 xs) → n ≤ d → Calls Try.prog 49 #[.slice B n d] w (RetE (.tuple #[repV e2 g2 l2 t2 s2 m2, .int .i64 q2]) w)) := by
    rcases readRep_cases xs n hl hb with ⟨q2, h1, h2, h3⟩ | ⟨e', l', t', s', m', gb, h1, h2, h3, h4, h5, h6, h7, h8, h9⟩
    · exact ⟨q2, 0, 0, 0, 0, 0, false, .inl h1, h2, h3⟩
    · exact ⟨0, _, _, _, _, _, gb, .inr ⟨rfl, e', l', t', s', m', rfl, rfl, rfl, rfl, rfl, h1, h2, h3, h4, h5, h6, h7⟩, h8, h9⟩
  obtain ⟨q2, e2, l2, t2, s2, m2, g2, hY, hD1, hD2⟩ := hrr
  have Hl := Lib.hid hl; have Hb := Lib.hid hb; have Hr := Lib.hid hr; have HI := Lib.hid hI; have HY := Lib.hid hY; have HC1 := Lib.hid hC1; have HC2 := Lib.hid hC2; have HD1 := Lib.hid hD1; have HD2 := Lib.hid hD2
  clear hl hb hr hI hY hC1 hC2 hD1 hD2
  obtain ⟨k, Hk⟩ : ∃ k, Hid (B.length = k) := ⟨_, rfl⟩
  have hB : B.length ≤ 34 ∧ ∀ x ∈ B, x < 256 := by
    rcases HI.out with ⟨_, rfl, _⟩ | ⟨_, e', l', t', s', n', _, _, _, _, _, h16, _, _, _, _, rfl⟩
    · simp
    · refine ⟨by rw [repB_len]; simp, fun x hx => ?_⟩
      simp only [repB, words, List.flatMap_cons, List.flatMap_nil, List.append_nil, List.mem_cons, List.mem_append] at hx
      rcases hx with rfl | rfl | hx | hx | hx | hx
      · omega
      · unfold oneIf; split <;> omega
      · exact wordB_lt _ _ x hx
      · exact wordB_lt _ _ x hx
      · exact wordB_lt _ _ x hx
      · exact wordB_lt _ _ x hx
  have HBb := Lib.hid hB.2
  have hk34 : k ≤ 34 := by rw [← Hk.out]; exact hB.1
  clear hB
  have hnq := rep_neq e2 g2 l2 t2 s2 m2
  go_enter Try.func13, Try.ntmps13
  go_wp2_with fail
  refine (wireAwake _).mono ?_
  rintro ex w1 ⟨rfl, hy1⟩
  have hx1 : Ext w w1 := ((Ext.refl w).alloc _).trans hy1
  have K1 := Lib.hid (blk_ext (blk_new w (.cells #[.int .i64 e, .bool g, .int .i64 l, .int .i64 t, .int .i64 s, .int .i64 m] 82 (0, 0))) hy1)
  have a0 := blk_cell K1.out 0; have a1 := blk_cell K1.out 1; have a2 := blk_cell K1.out 2; have a3 := blk_cell K1.out 3; have a4 := blk_cell K1.out 4; have a5 := blk_cell K1.out 5
  go_wp2_with fail
  refine (HC1.out w1).mono ?_
  rintro ex w2 ⟨A2, c2, rfl, ho2, hy2⟩
  rw [Hk.out] at ho2 ⊢
  have hc2 := own_cap ho2
  have R2 := Lib.hid (Rd.of_own ho2)
  have hx2 := hx1.trans hy2
  have K2 := Lib.hid (blk_ext K1.out hy2)
  clear a0 a1 a2 a3 a4 a5 ho2 K1
  have a0 := blk_cell K2.out 0; have a1 := blk_cell K2.out 1; have a2 := blk_cell K2.out 2; have a3 := blk_cell K2.out 3; have a4 := blk_cell K2.out 4; have a5 := blk_cell K2.out 5
  go_wp2_with fail
  refine (HC2.out w2).mono ?_
  rintro ex w3 ⟨A3, c3, rfl, ho3, hy3⟩
  rw [Hk.out] at ho3 ⊢
  have R3 := Lib.hid (Rd.of_own ho3)
  have hx3 := hx2.trans hy3
  have K3 := Lib.hid (blk_ext K2.out hy3)
  clear a0 a1 a2 a3 a4 a5 ho3 K2
  go_wp2_with fail
  refine (spare_any A n c xs w3 Hl.out hz (Hr.out.ext hx3)).mono ?_
  rintro ex w4 ⟨A4, cap4, rfl, hf, hy4⟩
  rw [Hl.out] at hf ⊢
  have hx4 := hx3.trans hy4
  have hcf := own_cap hf
  have hrf := Lib.hid (Rd.of_own hf)
  have hrk := Lib.hid (rd_take hrf.out)
  clear hf
  go_wp2_with fail
  refine (HD1.out w4 A4 cap4 hrk.out (by omega)).mono ?_
  rintro ex w5 ⟨rfl, hy5⟩
  have hx5 := hx4.trans hy5
  go_wp2_with fail
  refine (HD2.out _ A c ((Hr.out.ext hx5).alloc _) hnc).mono ?_
  rintro ex w6 ⟨rfl, hy6⟩
  have hy56 : Ext w5 w6 := ((Ext.refl w5).alloc _).trans hy6
  have hx6 := hx5.trans hy56
  have K6 := Lib.hid (blk_ext (blk_new w5 (.cells #[.int .i64 e2, .bool g2, .int .i64 l2, .int .i64 t2, .int .i64 s2, .int .i64 m2] 82 (0, 0))) hy6)
  obtain ⟨w7, hw7⟩ : ∃ w7, w6.alloc (.cells #[.int .i64 e2, .bool g2, .int .i64 l2, .int .i64 t2, .int .i64 s2, .int .i64 m2] 82) = w7 := ⟨_, rfl⟩
  have hy67 : Ext w6 w7 := by rw [← hw7]; exact (Ext.refl w6).alloc _
  have K7 : Hid (w7.heap[w6.heap.size]? = some (.cells #[.int .i64 e2, .bool g2, .int .i64 l2, .int .i64 t2, .int .i64 s2, .int .i64 m2] 82 (0, 0))) := by rw [← hw7]; exact blk_new _ _
  have hx7 := hx6.trans hy67
  go_upto_region 8 with fail
  clear hw7
  have hy27 : Ext w3 w7 := ((hy4.trans hy5).trans hy56).trans hy67
  have S := Lib.hid (toE_q (same_any A2 A3 k c2 k c3 B B w7 Hk.out Hk.out (by omega) HBb.out HBb.out (R2.out.ext (hy3.trans hy27)) (R3.out.ext hy27)))
  go_wp2_with fail
  refine S.out.mono ?_
  rintro ex w8 ⟨rfl, hy8⟩
  rw [show same B B = true from decide_eq_true rfl]
  have hx8 := hx7.trans hy8
  have K8 := Lib.hid (blk_ext K7.out hy8)
  have K8' := Lib.hid (blk_ext K6.out (hy67.trans hy8))
  have b0 := blk_cell K8.out 0; have b1 := blk_cell K8.out 1; have b2 := blk_cell K8.out 2; have b3 := blk_cell K8.out 3; have b4 := blk_cell K8.out 4; have b5 := blk_cell K8.out 5
  have d0 := blk_cell K8'.out 0; have d1 := blk_cell K8'.out 1; have d2 := blk_cell K8'.out 2; have d3 := blk_cell K8'.out 3; have d4 := blk_cell K8'.out 4; have d5 := blk_cell K8'.out 5
  have C3 := Lib.hid (kept_true A4 A n (n + 3) cap4 c xs w8 Hl.out rfl hcf (by omega) Hb.out (hrf.out.ext ((hy5.trans hy56).trans (hy67.trans hy8))) (Hr.out.ext hx8))
  go_wp2_with fail
  refine (toE_q C3.out).mono ?_
  rintro ex w9 ⟨rfl, hy9⟩
  have hx9 := hx8.trans hy9
  have K11 := Lib.hid (blk_ext K8'.out hy9)
  have K0 := Lib.hid (blk_ext K3.out (hy27.trans (hy8.trans hy9)))
  have R9 := Lib.hid (R2.out.ext ((hy3.trans hy27).trans (hy8.trans hy9)))
  clear b0 b1 b2 b3 b4 b5 d0 d1 d2 d3 d4 d5 C3 S
  rcases HI.out with ⟨rfl, rfl, _⟩ | ⟨rfl, e', l', t', s', n', rfl, rfl, rfl, rfl, rfl, i1, i2, i3, i4, i5, hBe⟩
  · clear HI
    rcases HY.out with hq2 | ⟨rfl, e2', l2', t2', s2', m2', rfl, rfl, rfl, rfl, rfl, hb1, hb2, hb3, hb4, hb5, hys, hn34⟩
    · have hq2' : (q2 == 0) = false := hq2
      clear HY
      go_wp2_with fail
      go_ret
      exact retTrue hx9
    · obtain ⟨q3, B3, hI3, hC3, _⟩ := rep_cases (e2' : Int) g2 (l2' : Int) (t2' : Int) (s2' : Int) (m2' : Int)
      have hB3 : q3 = 0 ∧ B3 = xs := by
        rcases hI3 with ⟨_, _, hno⟩ | ⟨rfl, e'', l'', t'', s'', m'', h1, h2, h3, h4, h5, _, _, _, _, _, rfl⟩
        · exact absurd ⟨by omega, by omega, ⟨by omega, by omega⟩, ⟨by omega, by omega⟩, ⟨by omega, by omega⟩, ⟨by omega, by omega⟩⟩ hno
        · have h1' : e2' = e'' := by omega
          have h2' : l2' = l'' := by omega
          have h3' : t2' = t'' := by omega
          have h4' : s2' = s'' := by omega
          have h5' : m2' = m'' := by omega
          subst h1' h2' h3' h4' h5'
          exact ⟨rfl, hys.symm⟩
      obtain ⟨rfl, rfl⟩ := hB3
      have KF := Lib.hid (blk_ext K11.out (Ext.refl w9))
      have f0 := blk_cell KF.out 0; have f1 := blk_cell KF.out 1; have f2 := blk_cell KF.out 2; have f3 := blk_cell KF.out 3; have f4 := blk_cell KF.out 4; have f5 := blk_cell KF.out 5
      have HX := Lib.hid hx9
      clear hys hb1 hb2 hb3 hb4 hb5 hI3 HY hn34
      go_wp2_with fail
      refine (hC3 _).mono ?_
      rintro e z1 ⟨A9, c9, rfl, ho9, hz1⟩
      rw [Hl.out] at ho9 ⊢
      have hxz := HX.out.trans hz1
      have S9 := Lib.hid (toE_q (same_any A9 A n c9 n c B3 B3 z1 Hl.out Hl.out (by omega) Hb.out Hb.out (Rd.of_own ho9) (Hr.out.ext hxz)))
      clear f0 f1 f2 f3 f4 f5 ho9
      go_wp2_with fail
      refine S9.out.mono ?_
      rintro e z2 ⟨rfl, hz2⟩
      rw [show same B3 B3 = true from decide_eq_true rfl]
      go_wp2_with fail
      go_ret
      exact retTrue (hxz.trans hz2)
  · have hk' : k = 34 := by rw [← Hk.out, hBe, repB_len]; rfl
    subst hBe
    have D := Lib.hid (readRep_ok w9 A2 k c2 e' l' t' s' n' g hk' hc2 i1 i2 i3 i4 i5 R9.out)
    clear HI hk'
    have a0 := blk_cell K0.out 0; have a1 := blk_cell K0.out 1; have a2 := blk_cell K0.out 2; have a3 := blk_cell K0.out 3; have a4 := blk_cell K0.out 4; have a5 := blk_cell K0.out 5
    go_wp2_with fail
    refine D.out.mono ?_
    rintro ex w10 ⟨rfl, hy10⟩
    have K10 := Lib.hid (blk_past (blk_ext K0.out hy10) (.cells #[.int .i64 (e' : Int), .bool g, .int .i64 (l' : Int), .int .i64 (t' : Int), .int .i64 (s' : Int), .int .i64 (n' : Int)] 82 (0, 0)))
    clear a0 a1 a2 a3 a4 a5
    have hy10' : Ext w9 (w10.alloc (.cells #[.int .i64 (e' : Int), .bool g, .int .i64 (l' : Int), .int .i64 (t' : Int), .int .i64 (s' : Int), .int .i64 (n' : Int)] 82)) := hy10.alloc _
    have HX10 := Lib.hid (hx9.trans hy10'); have HY10 := Lib.hid hy10'
    have a0 := blk_cell K10.out 0; have a1 := blk_cell K10.out 1; have a2 := blk_cell K10.out 2; have a3 := blk_cell K10.out 3; have a4 := blk_cell K10.out 4; have a5 := blk_cell K10.out 5
    rcases HY.out with hq2 | ⟨rfl, e2', l2', t2', s2', m2', rfl, rfl, rfl, rfl, rfl, hb1, hb2, hb3, hb4, hb5, hys, hn34⟩
    · have hq2' : (q2 == 0) = false := hq2
      clear HY
      go_wp2_with fail
      go_ret
      exact retTrue HX10.out
    · obtain ⟨q3, B3, hI3, hC3, _⟩ := rep_cases (e2' : Int) g2 (l2' : Int) (t2' : Int) (s2' : Int) (m2' : Int)
      have hB3 : q3 = 0 ∧ B3 = xs := by
        rcases hI3 with ⟨_, _, hno⟩ | ⟨rfl, e'', l'', t'', s'', m'', h1, h2, h3, h4, h5, _, _, _, _, _, rfl⟩
        · exact absurd ⟨by omega, by omega, ⟨by omega, by omega⟩, ⟨by omega, by omega⟩, ⟨by omega, by omega⟩, ⟨by omega, by omega⟩⟩ hno
        · have h1' : e2' = e'' := by omega
          have h2' : l2' = l'' := by omega
          have h3' : t2' = t'' := by omega
          have h4' : s2' = s'' := by omega
          have h5' : m2' = m'' := by omega
          subst h1' h2' h3' h4' h5'
          exact ⟨rfl, hys.symm⟩
      obtain ⟨rfl, rfl⟩ := hB3
      have KF := Lib.hid (blk_ext K11.out HY10.out)
      have f0 := blk_cell KF.out 0; have f1 := blk_cell KF.out 1; have f2 := blk_cell KF.out 2; have f3 := blk_cell KF.out 3; have f4 := blk_cell KF.out 4; have f5 := blk_cell KF.out 5
      have HX := Lib.hid HX10.out
      clear hys hb1 hb2 hb3 hb4 hb5 hI3 HY hn34
      go_wp2_with fail
      refine (hC3 _).mono ?_
      rintro e z1 ⟨A9, c9, rfl, ho9, hz1⟩
      rw [Hl.out] at ho9 ⊢
      have hxz := HX.out.trans hz1
      have S9 := Lib.hid (toE_q (same_any A9 A n c9 n c B3 B3 z1 Hl.out Hl.out (by omega) Hb.out Hb.out (Rd.of_own ho9) (Hr.out.ext hxz)))
      clear f0 f1 f2 f3 f4 f5 ho9
      go_wp2_with fail
      refine S9.out.mono ?_
      rintro e z2 ⟨rfl, hz2⟩
      rw [show same B3 B3 = true from decide_eq_true rfl]
      go_wp2_with fail
      go_ret
      exact retTrue (hxz.trans hz2)
end Go.Proofs.Ytkebkhgjoiiapaa
