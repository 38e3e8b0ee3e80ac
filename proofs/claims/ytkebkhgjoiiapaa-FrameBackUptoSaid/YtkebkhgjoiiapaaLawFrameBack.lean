/- FrameBack answers true: what is encoded comes back. -/
import Derived.Test.YtkebkhgjoiiapaaFrF
import Derived.Test.YtkebkhgjoiiapaaFrP3
import Derived.Deep.DeepCutAuto
import Derived.Deep.CutBlock
namespace Go.Proofs.Ytkebkhgjoiiapaa
open Go.RowKit

/-- the lists that FrameBack makes: all the frames; the payloads that are wanted -/
def BackRel (w w1 : World) (qs : List (List Nat)) (v7 v8 : Value) (wr : World) : Prop :=
  ∃ (A7 A8 : Option Addr) (c7 c8 : Nat) (vs : List Value), v7 = .slice A7 (flatF qs).length c7 ∧ v8 = .slice A8 qs.length c8 ∧ Ext w1 wr ∧ (∀ p ∈ qs, 1 ≤ p.length ∧ p.length ≤ 4096) ∧ (∀ p ∈ qs, ∀ x ∈ p, x < 256) ∧
    wr.ownsRow w1.heap.size 5 1 (.slice A7 (flatF qs).length c7) (flatF qs).length (vals .u8 (flatF qs)) ∧
    wr.ownsRow w1.heap.size 22 1 (.slice A8 qs.length c8) qs.length vs ∧
    ∀ (i : Nat) (ps : List Nat), qs[i]? = some ps → ∃ (Ai : Option Addr) (ci : Nat), vs[i]? = some (Value.slice Ai ps.length ci) ∧ ps.length ≤ ci ∧ Rd w Ai (vals .u8 ps)

theorem own_len4 (w : World) (n : Nat) (x0 x1 x2 x3 : Int) (e0 : x0 = ((n / 16777216 % 256 : Nat) : Int)) (e1 : x1 = ((n / 65536 % 256 : Nat) : Int)) (e2 : x2 = ((n / 256 % 256 : Nat) : Int)) (e3 : x3 = ((n % 256 : Nat) : Int)) :
    (w.alloc (.cells #[.int .u8 x0, .int .u8 x1, .int .u8 x2, .int .u8 x3] 5)).ownsRow w.heap.size 5 1 (.slice (some ⟨w.heap.size, 0, none⟩) 4 4) 4 (vals .u8 (len4 n)) := by
  subst e0 e1 e2 e3
  exact own_made w _ 5 1 4 rfl (by unfold maxLen; omega) (Nat.le_refl _)

set_option maxRecDepth 100000 in
set_option maxHeartbeats 4000000 in
theorem frameBack_walk (w : World) (A : Option Addr) (n c : Nat) (xss : List (List Nat)) (hl : xss.length = n) (hb : ∀ xs ∈ xss, ∀ x ∈ xs, x < 256) (hr : RdBB w A xss) (_hnc : n ≤ c) (_hz : n ≤ 1048576) (hzs : ∀ xs ∈ xss, xs.length ≤ 1048576)
    (bad : Nat) (hbad : bad < 4294967296)
    (B : Option Addr) (m d : Nat) (ys : List Nat) (hl2 : ys.length = m) (hb2 : ∀ x ∈ ys, x < 256) (hr2 : Rd w B (vals .u8 ys)) (_hmd : m ≤ d) (hz2 : m ≤ 1048576) :
    Calls Try.prog 6 #[.slice A n c, .int .u32 (bad : Int), .slice B m d] w (RetTrue w) := by
  have Hl := Lib.hid hl; have Hb := Lib.hid hb; have Hr := Lib.hid hr; have Hl2 := Lib.hid hl2; have Hb2 := Lib.hid hb2; have Hr2 := Lib.hid hr2; have Hzs := Lib.hid hzs; clear hl hb hr hl2 hb2 hr2 hzs
  go_enter Try.func6, Try.ntmps6
  go_wp2_with fail
  refine (frAwake w).mono ?_
  rintro e w1 ⟨rfl, hx1⟩
  go_upto_block 0 with fail
  go_cut [7, 8] (fun v7 v8 wc => ∃ qs : List (List Nat), qs.length ≤ 50 ∧ BackRel w w1 qs v7 v8 wc)
  case first =>
    go_wp2_with fail
    go_loopg [7, 8, 22] n (fun g v7 v8 v22 wr => ∃ (k : Nat) (qs : List (List Nat)), v22 = .int .i64 (k : Int) ∧ k ≤ n ∧ k ≤ 50 ∧ g = n - k ∧ qs.length ≤ k ∧ BackRel w w1 qs v7 v8 wr)
    case atStart =>
      exact ⟨0, [], rfl, Nat.zero_le _, by omega, rfl, Nat.le_refl _, none, none, 0, 0, [], rfl, rfl, Ext.refl _, by simp, by simp, World.ownsRow_nil _ _ _ _, World.ownsRow_nil _ _ _ _, by simp⟩
    case round =>
      obtain ⟨k, qs, rfl, hkn, hk50, rfl, hqk, A7, A8, c7, c8, vs, rfl, rfl, hxr, hq1, hq2, ho7, ho8, hq3⟩ := hrel
      have hl7 : (flatF qs).length ≤ 4100 * 50 := by have := flatF_small qs (fun p hp => (hq1 p hp).2); omega
      have HQ1 := Lib.hid hq1; have HQ2 := Lib.hid hq2; have HO7 := Lib.hid ho7; have HO8 := Lib.hid ho8; have HQ3 := Lib.hid hq3; have Hxr := Lib.hid hxr; clear hq1 hq2 ho7 ho8 hq3 hxr
      have hsr : w1.heap.size ≤ wr.heap.size := Hxr.out.size
      by_cases hlt : k < n
      · obtain ⟨ps, hps⟩ : ∃ ps, xss[k]? = some ps := ⟨_, List.getElem?_eq_getElem (by rw [Hl.out]; exact hlt)⟩
        have hmem := List.mem_of_getElem? hps
        have hx0 : Ext w wr := hx1.trans Hxr.out
        obtain ⟨b, off, Ai, ci, hA, hcell0, hci, hri⟩ := Hr.out.at_ hps
        have hcell : wr.cell? ⟨b, off + k, none⟩ = some (.slice Ai ps.length ci) := (hx0.cell (World.block_lt_of_cell? w _ hcell0)).trans hcell0
        have hpl : ps.length ≤ 1048576 := Hzs.out ps hmem
        have hpb := Hb.out ps hmem
        obtain ⟨np, hnp⟩ : ∃ np, ps.length = np := ⟨_, rfl⟩
        rw [hnp] at hcell hci hpl
        have Hnp := Lib.hid hnp; have Hpb := Lib.hid hpb; have Hri := Lib.hid hri; have Hci := Lib.hid hci
        clear hps hmem hcell0 hnp hpb hri hci
        subst hA
        by_cases h50 : 50 ≤ k
        · go_wp2_with fail
          go_meet
          exact ⟨qs, by omega, A7, A8, c7, c8, vs, rfl, rfl, Hxr.out, HQ1.out, HQ2.out, HO7.out, HO8.out, HQ3.out⟩
        · go_wp2_with (first | (at_builtin; refine app_u8 _ rfl (.tmp 30) (.tmp 31) rfl wr.heap.size rfl (own0 wr) rfl Hnp.out ((Hri.out.ext hx0).alloc _) (by omega) (by simp) ?_; intro A4 c4 w4 hown4 hgrow4 _) | fail)
          rw [Nat.zero_add, List.nil_append] at hown4
          have hy4 : Ext wr w4 := ((Ext.refl wr).alloc _).grown hgrow4 (own_ge (own0 wr))
          have hr4 := Lib.hid (Rd.of_own hown4)
          have hx4 := Lib.hid (Hxr.out.trans hy4)
          have HO7' := Lib.hid (own_ext HO7.out hy4)
          have HO8' := Lib.hid (own_ext HO8.out hy4)
          clear hown4 hgrow4 HO7 HO8 Hxr hcell
          have hs4 : wr.heap.size ≤ w4.heap.size := hy4.size
          clear hy4
          by_cases h0 : np = 0
          · subst h0
            go_wp2_with fail
            refine (frEncode_none w4 A4 c4).mono ?_
            rintro e w5 ⟨rfl, rfl⟩
            go_wp2_with fail
            go_roundg (n - (k + 1))
            case measure => omega
            case rel =>
              exact ⟨k + 1, qs, by go_num, by omega, by omega, rfl, by omega, A7, A8, c7, c8, vs, rfl, rfl, hx4.out, HQ1.out, HQ2.out, HO7'.out, HO8'.out, HQ3.out⟩
          · have hne : ((np : Int) == 0) = false := by rw [beq_eq_false_iff_ne]; omega
            by_cases hlong : 4096 < np
            · go_wp2_with fail
              refine (frEncode_long w4 A4 np c4 hlong).mono ?_
              rintro e w5 ⟨rfl, rfl⟩
              go_wp2_with fail
              go_roundg (n - (k + 1))
              case measure => omega
              case rel =>
                exact ⟨k + 1, qs, by go_num, by omega, by omega, rfl, by omega, A7, A8, c7, c8, vs, rfl, rfl, hx4.out, HQ1.out, HQ2.out, HO7'.out, HO8'.out, HQ3.out⟩
            · go_wp2_with fail
              refine (frEncode_ok w4 A4 np c4 ps (by omega) (by omega) Hnp.out hr4.out).mono ?_
              rintro e w5 ⟨A5, c5, rfl, hown5, hy5⟩
              have hlx : (len4 np ++ ps).length = np + 4 := by rw [List.length_append, len4_len, Hnp.out]; omega
              rw [hlx] at hown5 ⊢
              have hr5 := Rd.of_own hown5
              have ho7 := own_ext HO7'.out hy5
              have ho8 := Lib.hid (own_ext HO8'.out hy5)
              have hx5 := Lib.hid (hx4.out.trans hy5)
              have hs5 : w4.heap.size ≤ w5.heap.size := hy5.size
              have Hlx := Lib.hid hlx
              clear hown5 hy5 HO7' HO8' hlx
              go_wp2_with (first | (at_builtin; refine app_u8 _ rfl (.tmp 61) (.tmp 62) rfl w1.heap.size rfl ho7 rfl Hlx.out hr5 (by omega) (by omega) ?_; intro A6 c6 w6 hown6 hgrow6 _; have ho8' := (ho8.out.kept hgrow6 (own_types ho8.out ho7 (by decide))).alloc (.cells #[.slice Ai np ci] 22)) | (at_builtin; refine app_bb _ rfl (.tmp 64) (.tmp 66) rfl w1.heap.size rfl ho8' rfl (m := 1) (news := [.slice Ai np ci]) rfl (rd_new _ _ _) (fun u hu => by rw [List.mem_singleton.1 hu]; rfl) (by omega) (by have := hgrow6.size; simp; omega) ?_; intro B9 cb9 w9 hown9 hgrow9 _) | fail)
              go_roundg (n - (k + 1))
              case measure => omega
              case rel =>
                have hg9 := World.grown_trans (World.grownBy_alloc w6 (.cells #[.slice Ai np ci] 22) _) hgrow9
                have hfl : flatF (qs ++ [ps]) = flatF qs ++ (len4 np ++ ps) := by rw [flatF_snoc, Hnp.out]
                have hfll : (flatF (qs ++ [ps])).length = (flatF qs).length + (np + 4) := by rw [hfl, List.length_append, Hlx.out]
                have hql : (qs ++ [ps]).length = qs.length + 1 := by simp
                refine ⟨k + 1, qs ++ [ps], by go_num, by omega, by omega, rfl, by omega, A6, B9, c6, cb9, vs ++ [.slice Ai np ci], by rw [hfll], by rw [hql], ?_, ?_, ?_, ?_, ?_, ?_⟩
                · exact (hx5.out.grown hgrow6 (own_ge ho7)).grown hg9 (own_ge ho8.out)
                · intro p hp
                  rcases List.mem_append.1 hp with hp | hp
                  · exact HQ1.out p hp
                  · rw [List.mem_singleton.1 hp, Hnp.out]; omega
                · intro p hp
                  rcases List.mem_append.1 hp with hp | hp
                  · exact HQ2.out p hp
                  · rw [List.mem_singleton.1 hp]; exact Hpb.out
                · rw [hfll, hfl, vals_append]
                  rw [← vals_append]
                  exact hown6.kept hg9 (own_types hown6 (ho8.out.kept hgrow6 (own_types ho8.out ho7 (by decide))) (by decide))
                · rw [hql]; exact hown9
                · intro i qs' hi
                  have hvl : vs.length = qs.length := by have := ho8.out.1; omega
                  by_cases hin : i < qs.length
                  · rw [List.getElem?_append_left hin] at hi
                    rw [List.getElem?_append_left (by omega)]
                    exact HQ3.out i qs' hi
                  · rw [List.getElem?_append_right (by omega)] at hi
                    obtain rfl : i = qs.length := by
                      have := (List.getElem?_eq_some_iff.1 hi).1
                      simp at this; omega
                    simp at hi
                    subst hi
                    exact ⟨Ai, ci, by rw [List.getElem?_append_right (by omega), hvl, Nat.sub_self, Hnp.out]; rfl, by rw [Hnp.out]; exact Hci.out, Hri.out⟩
      · go_wp2_with fail
        go_meet
        exact ⟨qs, by omega, A7, A8, c7, c8, vs, rfl, rfl, Hxr.out, HQ1.out, HQ2.out, HO7.out, HO8.out, HQ3.out⟩
  case rest =>
    obtain ⟨w0, hw0⟩ : ∃ w0, w0 = wc := ⟨_, rfl⟩
    subst hw0
    obtain ⟨qs, hq50, A7, A8, c7, c8, vs, rfl, rfl, hxr, hq1, hq2, ho7, ho8, hq3⟩ := hcut
    have hfl : (flatF qs).length ≤ 4100 * 50 := by have := flatF_small qs (fun p hp => (hq1 p hp).2); omega
    have hbb : ∀ ps ∈ qs, ps.length ≤ 9223372036854775807 ∧ ∀ x ∈ ps, x < 256 := fun p hp => ⟨by have := (hq1 p hp).2; omega, hq2 p hp⟩
    have Hparse := Lib.hid (parse_flat qs hq1)
    have Hflt := Lib.hid (flatF_lt qs hq2)
    have hx2 := hx1.trans hxr
    have h8w : RdBB w0 A8 qs := ⟨vs, by have := ho8.1; omega, Rd.of_own ho8, fun i ps hi => by
      obtain ⟨Ai, ci, k1, k2, k3⟩ := hq3 i ps hi
      exact ⟨Ai, ci, k1, k2, k3.ext hx2⟩⟩
    have H7 := Lib.hid (Rd.of_own ho7); have H7lt := Lib.hid (own_lt ho7); have H8 := Lib.hid h8w; have Hbb := Lib.hid hbb
    obtain ⟨N, hN⟩ : ∃ N, (flatF qs).length = N := ⟨_, rfl⟩
    rw [hN] at hfl ⊢
    have HN := Lib.hid hN
    clear hq1 hq2 hq3 ho7 ho8 h8w hbb hN
    go_wp2_with fail
    refine (frNew w0).mono ?_
    rintro e w2 ⟨rfl, hR2, hy2, hs2⟩
    have hx3 := hx2.trans hy2
    have hs1 : w.heap.size ≤ w0.heap.size := hx2.size
    have HR2 := Lib.hid hR2; clear hR2
    go_wp2_with (first | (at_builtin; refine app_u8 _ rfl (.tmp 72) (.tmp 73) rfl w2.heap.size rfl (own0 w2) rfl HN.out ((H7.out.ext hy2).alloc _) (by omega) (by simp) ?_; intro A3 c3 w3 hown3 hgrow3 _) | fail)
    rw [Nat.zero_add, List.nil_append] at hown3
    have hy3 : Ext w2 w3 := ((Ext.refl w2).alloc _).grown hgrow3 (own_ge (own0 w2))
    have hr3 := Lib.hid (Rd.of_own hown3)
    have HR3 := Lib.hid (HR2.out.ext hy3)
    have hx4 := hx3.trans hy3
    have hy23 := hy2.trans hy3
    clear hown3 hgrow3 HR2
    go_wp2_with fail
    refine (feed_open w3 w0.heap.size _ [] A3 N c3 (flatF qs) HR3.out (by simp) HN.out Hflt.out hr3.out (by rw [List.length_nil]; omega)).mono ?_
    intro e w5 hF
    rw [List.nil_append] at hF
    obtain ⟨S5, A5, n5, c5, rfl, hn5, hS5, hP5, hR5, hg5⟩ := feedR_ok hF Hparse.out
    obtain rfl : qs.length = n5 := hn5
    have hx5 : Ext w w5 := hx4.grown hg5 (fun k hk => by injection hk with hk; omega)
    have hy5 : Ext w0 w5 := hy23.grown hg5 (fun k hk => by injection hk with hk; omega)
    have HR5 := Lib.hid hR5
    have C := Lib.hid (refSame_true w5 A5 A8 qs.length c5 c8 qs rfl (by omega) Hbb.out hP5.rd (H8.out.ext hy5))
    clear hF hP5 hR5 hg5 hr3 HR3
    go_wp2_with fail
    refine (toE_q C.out).mono ?_
    rintro e w6 ⟨rfl, hy6⟩
    have HR6 := Lib.hid (HR5.out.ext hy6)
    have hx6 := hx5.trans hy6
    have H7' := Lib.hid (H7.out.ext (hy5.trans hy6))
    have hs6 : w0.heap.size ≤ w6.heap.size := (hy5.trans hy6).size
    clear C HR5 H7 H8
    go_wp2_with fail
    refine (waiting_any w6 w0.heap.size _ [] false HR6.out).mono ?_
    rintro e w7 ⟨rfl, rfl⟩
    rw [List.length_nil]
    go_upto_region 21 with fail
    go_cut [96] (fun v wd => v = .bool (decide (1 ≤ bad ∧ bad ≤ 4096)) ∧ wd = w6)
    case first =>
      by_cases h1 : 1 ≤ bad
      · by_cases h2 : bad ≤ 4096
        · go_wp2_with fail
          go_meet
          exact ⟨congrArg Value.bool (by simp [h1]; omega), rfl⟩
        · go_wp2_with fail
          go_meet
          exact ⟨congrArg Value.bool (by simp [h1]; omega), rfl⟩
      · go_wp2_with fail
        go_meet
        exact ⟨congrArg Value.bool (by simp [h1]), rfl⟩
    case rest =>
    obtain ⟨rfl, hw⟩ := hcut
    obtain rfl : w6 = wc := hw.symm
    clear hw
    go_upto_if 96 with fail
    go_cut [1] (fun v wd => ∃ b : Nat, v = .int .u32 (b : Int) ∧ b < 4294967296 ∧ (b = 0 ∨ 4096 < b) ∧ wd = w6)
    case first =>
      by_cases h12 : 1 ≤ bad ∧ bad ≤ 4096
      · have hd : decide (1 ≤ bad ∧ bad ≤ 4096) = true := by simp [h12]
        go_wp2_with fail
        go_meet
        exact ⟨0, rfl, by omega, by omega, rfl⟩
      · have hd : decide (1 ≤ bad ∧ bad ≤ 4096) = false := by simp [h12]
        go_wp2_with fail
        go_meet
        exact ⟨bad, rfl, hbad, by omega, rfl⟩
    case rest =>
    obtain ⟨b, rfl, hb4, hb5, hw⟩ := hcut
    obtain rfl : w6 = wc := hw.symm
    clear hw
    have hbl : ∀ x ∈ len4 b ++ ys, x < 256 := fun x hx => by
      rcases List.mem_append.1 hx with hx | hx
      · exact len4_lt _ x hx
      · exact Hb2.out x hx
    have hbn : (len4 b ++ ys).length = 4 + m := by rw [List.length_append, len4_len, Hl2.out]
    have Hbl := Lib.hid hbl; have Hbn := Lib.hid hbn; clear hbl hbn
    go_wp2_with (first | (at_builtin; refine app_u8 _ rfl (.tmp 110) (.tmp 111) rfl w6.heap.size rfl (own_len4 w6 b _ _ _ _ (by omega) (by omega) (by omega) (by omega)) rfl Hl2.out ((Hr2.out.ext hx6).alloc _) (by omega) (by simp) ?_; intro A9 c9 w9 hown9 hgrow9 _) | fail)
    have hy9 : Ext w6 w9 := ((Ext.refl w6).alloc _).grown hgrow9 (by simp [Value.ownBlock])
    have hr9 := Lib.hid (Rd.of_own hown9)
    have HR9 := Lib.hid (HR6.out.ext hy9)
    have hs9 : w6.heap.size ≤ w9.heap.size := hy9.size
    clear hown9 hgrow9
    go_wp2_with fail
    refine (feed_open w9 w0.heap.size _ [] A9 (4 + m) c9 (len4 b ++ ys) HR9.out (by simp) Hbn.out Hbl.out hr9.out (by rw [List.length_nil]; omega)).mono ?_
    intro e w10 hF
    rw [List.nil_append] at hF
    obtain ⟨S10, A10, n10, c10, rfl, hn10, hS10, hP10, hR10, hg10⟩ := feedR_any hF
    have hbk := parse_broken b ys hb4 hb5
    unfold endF leftF at *
    rw [hbk] at hn10 hR10 ⊢
    obtain rfl : 0 = n10 := hn10
    have hx10 : Ext w w10 := (hx6.trans hy9).grown hg10 (fun k hk => by injection hk with hk; omega)
    have HR10 := Lib.hid hR10
    have h7b := H7'.out.ext hy9
    have H7b := Lib.hid (h7b.grown hg10 (fun a ha hr => by have := H7lt.out a ha; injection hr with hr; omega))
    clear hF hP10 hR10 hbk h7b hg10
    go_wp2_with (first | (at_builtin; refine app_u8 _ rfl (.tmp 125) (.tmp 126) rfl w10.heap.size rfl (own0 w10) rfl HN.out (H7b.out.alloc _) (by omega) (by simp) ?_; intro A11 c11 w11 hown11 hgrow11 _) | fail)
    have hy11 : Ext w10 w11 := ((Ext.refl w10).alloc _).grown hgrow11 (own_ge (own0 w10))
    have HR11 := Lib.hid (HR10.out.ext hy11)
    have hx11 := hx10.trans hy11
    clear hown11 hgrow11 H7b HR10
    go_wp2_with fail
    refine (feed_closed w11 w0.heap.size _ _ A11 N c11 HR11.out).mono ?_
    rintro e w12 ⟨rfl, rfl⟩
    go_wp2_with fail
    refine (end_closed w11 w0.heap.size _ _ HR11.out).mono ?_
    rintro e w12 ⟨rfl, rfl⟩
    go_wp2_with fail
    go_ret
    exact retTrue hx11
end Go.Proofs.Ytkebkhgjoiiapaa
