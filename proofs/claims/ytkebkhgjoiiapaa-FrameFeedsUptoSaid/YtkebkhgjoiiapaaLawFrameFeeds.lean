/- FrameFeeds answers true. -/
import Derived.Test.YtkebkhgjoiiapaaFrJ
import Derived.Test.YtkebkhgjoiiapaaFrAwake
import Derived.Deep.DeepCutAuto
import Derived.Deep.CutBlock
namespace Go.Proofs.Ytkebkhgjoiiapaa
open Go.RowKit

set_option maxRecDepth 100000 in
set_option maxHeartbeats 4000000 in
theorem frameFeeds_walk (w : World) (A : Option Addr) (n c : Nat) (xss : List (List Nat)) (hl : xss.length = n) (hb : ∀ xs ∈ xss, ∀ x ∈ xs, x < 256) (hr : RdBB w A xss) (_hnc : n ≤ c) (_hz : n ≤ 1048576) (hzs : ∀ xs ∈ xss, xs.length ≤ 1048576)
    (E : Option Addr) (me ce : Nat) (es : List Bool) (hl2 : es.length = me) (hr2 : Rd w E (es.map Value.bool)) (_hme : me ≤ ce) (_hz2 : me ≤ 1048576) :
    Calls Try.prog 4 #[.slice A n c, .slice E me ce] w (RetTrue w) := by
  have Hl := Lib.hid hl; have Hb := Lib.hid hb; have Hr := Lib.hid hr; have Hl2 := Lib.hid hl2; have Hr2 := Lib.hid hr2; have Hzs := Lib.hid hzs; clear hl hb hr hl2 hr2 hzs
  go_enter Try.func4, Try.ntmps4
  go_wp2_with fail
  refine (frAwake w).mono ?_
  rintro e w1 ⟨rfl, hx1⟩
  go_wp2_with fail
  refine (frNew w1).mono ?_
  rintro e w2 ⟨rfl, hR2, hy2, hs2⟩
  obtain ⟨r, Hr1⟩ : ∃ r, Hid (w1.heap.size = r) := ⟨_, rfl⟩
  obtain ⟨d, Hd1⟩ : ∃ d, Hid (w2.heap.size = d) := ⟨_, rfl⟩
  have hrd : r < d := by have := Hr1.out; have := Hd1.out; omega
  have hwr : w.heap.size ≤ r := by have := Hr1.out; have := hx1.size; omega
  obtain ⟨W2, HW2⟩ : ∃ W2, Hid (w2.alloc (.cells #[.slice none 0 0, .int .i64 0, .bool false] 36) = W2) := ⟨_, rfl⟩
  have xW2 : Ext w2 W2 := by rw [← HW2.out]; exact (Ext.refl w2).alloc _
  have H0 := Lib.hid (show FeedAt w r d 0 W2 from ⟨(· = d), fun _ => False, [], [], 0, false, ⟨⟨none, 0, 0, by rw [← HW2.out, ← Hd1.out]; exact blk_new w2 _, rfl, World.ownsRow_nil _ _ _ _, fun q e => (by cases e), rfl, fun i hi => by
      have hi : i = d := hi
      have h9 : W2.heap.size = d + 1 := by rw [← HW2.out, ← Hd1.out]; simp
      omega⟩, by rw [← Hr1.out]; exact hR2.ext xW2, (hx1.trans hy2).trans xW2, hwr, fun e => by have e : r = d := e; omega, id, fun b hb => hb.elim, by simp, Nat.le_refl _, fun _ => by rw [parse_nil]; exact ⟨rfl, rfl, rfl⟩, fun e => by cases e⟩⟩)
  clear hR2 hy2 xW2
  go_upto_block 0 with fail
  (try rw [Hr1.out])
  (try rw [Hd1.out])
  (try rw [HW2.out])
  clear HW2
  go_cut [] (fun wd => Ext w wd)
  case first =>
    go_wp2_with fail
    go_loopw [33] (fun i wr => ∃ k : Nat, k ≤ n ∧ k ≤ 200 ∧ i = .int .i64 (k : Int) ∧ FeedAt w r d (1048576 * k) wr) (fun i _ => n - (intOf i).toNat)
    case atStart => exact ⟨0, Nat.zero_le _, by omega, rfl, H0.out⟩
    case round =>
      obtain ⟨k, hk, hk2, rfl, hI⟩ := hrel
      have HI := Lib.hid hI
      obtain ⟨D, S, all, ws, told, cl, hF0⟩ := hI
      have HF0 := Lib.hid hF0
      have hI := HI.out
      clear hF0
      by_cases hlt : k < n
      · obtain ⟨ps, hps⟩ : ∃ ps, xss[k]? = some ps := ⟨_, List.getElem?_eq_getElem (by rw [Hl.out]; exact hlt)⟩
        have hmem := List.mem_of_getElem? hps
        have hx0 : Ext w wr := hI.out
        obtain ⟨b, off, Ai, ci, hA, hcell0, hci, hri⟩ := Hr.out.at_ hps
        have hcell : wr.cell? ⟨b, off + k, none⟩ = some (.slice Ai ps.length ci) := (hx0.cell (World.block_lt_of_cell? w _ hcell0)).trans hcell0
        have hpl : ps.length ≤ 1048576 := Hzs.out ps hmem
        have hpb := Hb.out ps hmem
        obtain ⟨np, hnp⟩ : ∃ np, ps.length = np := ⟨_, rfl⟩
        rw [hnp] at hcell hci hpl
        have Hnp := Lib.hid hnp; have Hpb := Lib.hid hpb; have Hri := Lib.hid hri; have Hci := Lib.hid hci
        clear hps hmem hcell0 hnp hpb hri hci hI
        subst hA
        by_cases h200 : k < 200
        · have SPR := Lib.hid (spare_any Ai np ci ps wr Hnp.out (by omega) (Hri.out.ext hx0))
          have HX0 := Lib.hid hx0
          go_wp2_with fail
          refine SPR.out.mono ?_
          rintro e w3 ⟨F, cF, rfl, hoF, hx3⟩
          rw [Hnp.out] at hoF ⊢
          obtain ⟨fb, rfl, hfb1, hfb2⟩ := own_block hoF (by omega)
          have hcF := own_cap hoF
          obtain ⟨m3, hm3⟩ : ∃ m3, np + 3 = m3 := ⟨_, rfl⟩
          rw [hm3] at hoF hcF ⊢
          have hq3 : Rd w3 (some ⟨fb, 0, none⟩) (vals .u8 ps) := rd_take (Rd.of_own hoF)
          have EN := Lib.hid (frEncode_any w3 (some ⟨fb, 0, none⟩) np cF ps Hnp.out hq3)
          have HOF := Lib.hid hoF; have HX3 := Lib.hid hx3; have HM3 := Lib.hid hm3
          clear hoF hx3 hx0 hq3 hm3
          go_wp2_with fail
          refine EN.out.mono ?_
          rintro e w4 ⟨X, cX, rfl, hrX, hx4⟩
          have DE := Lib.hid (docEncode_any w4 Ai np ci ps Hnp.out (by omega) (((Hri.out.ext HX0.out).ext HX3.out).ext hx4))
          have HRX := Lib.hid hrX; have HX4 := Lib.hid hx4
          clear hrX hx4
          go_wp2_with fail
          refine DE.out.mono ?_
          rintro e w5 ⟨Y, cY, rfl, hrY, hx5⟩
          have SM0 := same_any X Y (encF ps).1.length cX (encF ps).1.length cY (encF ps).1 (encF ps).1 w5 rfl rfl (by have := encF_len ps; omega) (encF_lt Hpb.out) (encF_lt Hpb.out) (HRX.out.ext hx5) hrY
          rw [show same (encF ps).1 (encF ps).1 = true from decide_eq_true rfl] at SM0
          have SM := Lib.hid SM0
          obtain ⟨en, hen⟩ : ∃ en, (encF ps).2 = en := ⟨_, rfl⟩
          rw [hen]
          obtain ⟨ny, hny⟩ : ∃ ny, (encF ps).1.length = ny := ⟨_, rfl⟩
          rw [hny] at SM ⊢
          have HX5 := Lib.hid hx5
          clear hrY hx5 SM0 hen hny
          go_wp2_with fail
          refine SM.out.mono ?_
          rintro e w6 ⟨rfl, q6, rfl⟩
          have hx36 : Ext w3 (w5.drewN q6) := (HX4.out.trans HX5.out).trans ((Ext.refl w5).drewN q6)
          have H6 := Lib.hid (HF0.out.ext (HX3.out.trans hx36))
          have OF6 := Lib.hid (own_ext HOF.out hx36)
          have P6 := Lib.hid (Hri.out.ext ((HX0.out.trans HX3.out).trans hx36))
          have hfb6 : wr.heap.size ≤ fb ∧ fb < w3.heap.size := ⟨hfb1, hfb2⟩
          have hs36 := hx36.size
          obtain ⟨w6, hw6⟩ : ∃ w6, w5.drewN q6 = w6 := ⟨_, rfl⟩
          rw [hw6] at H6 OF6 P6 hs36 ⊢
          have HS36 := Lib.hid hs36; have HFB := Lib.hid hfb6
          clear hw6 hx36 hs36 hfb6 hfb1 hfb2 HOF
          go_upto_region 13 with fail
          go_cut [78] (fun v wd => (∃ bb : Bool, v = .bool bb) ∧ wd = w6)
          case first =>
            by_cases h0 : np = 0
            · subst h0
              by_cases hke : k < me
              · have hd1 : decide ((k : Int) < (me : Int)) = true := decide_eq_true (by omega)
                have hd2 : decide (k < me) = true := decide_eq_true hke
                obtain ⟨bv, hbv⟩ : ∃ bv, es[k]? = some bv := ⟨_, List.getElem?_eq_getElem (by rw [Hl2.out]; exact hke)⟩
                have hne : es.map Value.bool ≠ [] := fun e => by
                  have := congrArg List.length e
                  rw [List.length_map, Hl2.out] at this
                  simp at this
                  omega
                obtain ⟨eb, eo, hE, hec⟩ := Hr2.out hne
                have hec0 := hec k (.bool bv) (by rw [List.getElem?_map, hbv]; rfl)
                have hx06 := H6.out.out
                have hec6 := ext_cell hx06 hec0
                subst hE
                have hk0 : (0 : Int) ≤ (k : Int) := by omega
                have hkm : (k : Int) < (me : Int) := by omega
                clear hne hec hec0 hx06 hbv
                go_wp2_with fail
                go_meet
                exact ⟨⟨bv, rfl⟩, rfl⟩
              · have hd1 : decide ((k : Int) < (me : Int)) = false := decide_eq_false (by omega)
                have hd2 : decide (k < me) = false := decide_eq_false hke
                go_wp2_with fail
                go_meet
                exact ⟨⟨false, rfl⟩, rfl⟩
            · have hne : ((np : Int) == 0) = false := by rw [beq_eq_false_iff_ne]; omega
              go_wp2_with fail
              go_meet
              exact ⟨⟨false, rfl⟩, rfl⟩
          case rest =>
            obtain ⟨⟨bb, rfl⟩, hw6⟩ := hcut
            obtain rfl : w6 = wc := hw6.symm
            clear hw6
            have hF := H6.out
            have hfr : ¬ D fb ∧ ¬ S fb ∧ fb ≠ r := by
              have h9 := HFB.out.1
              exact ⟨fun e => by have := (HF0.out.dlt fb e).2; omega, fun e => by have := (HF0.out.sb fb e).2.1; omega, fun e => by have := HF0.out.rlt; omega⟩
            have HF := Lib.hid hF; have HFR := Lib.hid hfr
            have hall : all.length ≤ 1048576 * 200 := by have := hF.len; omega
            have hby := Lib.hid hF.by_
            go_upto_if 78 with fail
            go_cut [] (fun wd => FeedF w r d (1048576 * (k + 1)) fb m3 cF wd)
            case first =>
              have hbr : Hid (ByteRow w6 w.heap.size (.slice (some ⟨fb, 0, none⟩) m3 cF) m3) := Lib.hid ⟨ps ++ [165, 90, 165], fun y hy => by
                rcases List.mem_append.1 hy with hy | hy
                · exact Hpb.out y hy
                · simp at hy; omega, own_base OF6.out HX0.out.size⟩
              have hwfb : w.heap.size ≤ fb := Nat.le_trans HX0.out.size HFB.out.1
              cases bb with
              | true =>
                cases cl with
                | false =>
                  have EO := Lib.hid (end_open w6 r S ws hF.rdr)
                  obtain ⟨nw, hnw⟩ : ∃ nw, ws.length = nw := ⟨_, rfl⟩
                  have hwn : waitN all false = nw := by
                    unfold waitN
                    rw [if_neg (by simp), ← (hF.op rfl).1]
                    exact hnw
                  rw [hnw] at EO
                  have HWN := Lib.hid hwn
                  clear hF hfr hwn hnw
                  go_wp2_with fail
                  refine EO.out.mono ?_
                  rintro e w7 ⟨rfl, hR7, hg7⟩
                  have g7 : GB w6 w7 (· = r) := (GB.refl w6 _).grown hg7 (fun q e => .inl (by injection e with e; exact e.symm))
                  have DE2 := docEnd_open w7 w.heap.size d told D all (HF.out.doc.gb g7 (fun i hi e => HF.out.rD (e ▸ hi))) hby.out (by omega)
                  rw [HWN.out] at DE2
                  have DE3 := Lib.hid DE2
                  have HR7 := Lib.hid hR7; have HG7 := Lib.hid g7
                  clear DE2 hR7 hg7 g7
                  go_wp2_with fail
                  refine DE3.out.mono ?_
                  rintro e w8 ⟨rfl, hD8, g8⟩
                  have FIN : Hid (FeedF w r d (1048576 * (k + 1)) fb m3 cF w8) := Lib.hid (by
                    have hFo := HF.out
                    refine ⟨D, S, all, [], told, true, ⟨hD8, HR7.out.gb g8 hFo.rD (fun b hb => (hFo.sb b hb).2.2), g8.to_ext (HG7.out.to_ext hFo.out (fun i e => e ▸ hFo.rge)) (fun i e => (hFo.dlt i e).1), hFo.rge, hFo.rD, hFo.rS, fun b hb => ⟨(hFo.sb b hb).1, Nat.lt_of_lt_of_le (hFo.sb b hb).2.1 (Nat.le_trans HG7.out.size g8.size), (hFo.sb b hb).2.2⟩, hFo.by_, by have := hFo.len; omega, (fun e => by cases e), fun _ => rfl⟩, ?_, HFR.out⟩
                    obtain ⟨ys, hy1, hy2⟩ := hbr.out
                    exact ⟨ys, hy1, g8.own (HG7.out.own hy2 (fun q e => by injection e with e; subst e; exact HFR.out.2.2)) (fun q e => by injection e with e; subst e; exact HFR.out.1)⟩)
                  clear hD8 g8
                  go_wp2_with fail
                  go_meet
                  exact FIN.out
                | true =>
                  have EC := Lib.hid (end_closed w6 r S ws hF.rdr)
                  have DC := Lib.hid (docEnd_closed w6 w.heap.size d told D all hF.doc)
                  have FIN : Hid (FeedF w r d (1048576 * (k + 1)) fb m3 cF w6) := Lib.hid ⟨D, S, all, ws, told, true, hF.more (by omega), hbr.out, hfr⟩
                  clear hF hfr
                  go_wp2_with fail
                  refine EC.out.mono ?_
                  rintro e w7 ⟨rfl, rfl⟩
                  go_wp2_with fail
                  refine DC.out.mono ?_
                  rintro e w7 ⟨rfl, rfl⟩
                  go_wp2_with fail
                  go_meet
                  exact FIN.out
              | false =>
                have KT := Lib.hid (fun u (x : Ext w6 u) => kept_true (some ⟨fb, 0, none⟩) Ai np m3 cF ci ps u Hnp.out HM3.out hcF (by omega) Hpb.out ((Rd.of_own OF6.out).ext x) (P6.out.ext x))
                cases cl with
                | true =>
                  have FC := Lib.hid (feed_closed w6 r S ws (some ⟨fb, 0, none⟩) np cF hF.rdr)
                  have DC := Lib.hid (docFeed_closed w6 w.heap.size d told D all Ai np ci hF.doc)
                  have SA := Lib.hid (refSame_true w6 none none 0 0 0 [] rfl (by omega) (by simp) ⟨[], rfl, Rd.nil _ _, by simp⟩ ⟨[], rfl, Rd.nil _ _, by simp⟩)
                  have FIN : Hid (FeedF w r d (1048576 * (k + 1)) fb m3 cF w6) := Lib.hid ⟨D, S, all, ws, told, true, hF.more (by omega), hbr.out, hfr⟩
                  clear hF hfr
                  go_wp2_with fail
                  refine FC.out.mono ?_
                  rintro e w7 ⟨rfl, rfl⟩
                  go_wp2_with fail
                  refine DC.out.mono ?_
                  rintro e w7 ⟨rfl, rfl⟩
                  go_wp2_with fail
                  refine (toE_q SA.out).mono ?_
                  rintro e w7 ⟨rfl, hx7⟩
                  have KT7 := Lib.hid (KT.out w7 hx7)
                  have HX7 := Lib.hid hx7
                  clear hx7
                  go_wp2_with fail
                  refine (toE_q KT7.out).mono ?_
                  rintro e w8 ⟨rfl, hx8⟩
                  have FIN2 : Hid (FeedF w r d (1048576 * (k + 1)) fb m3 cF w8) := Lib.hid (by
                    obtain ⟨D', S', all', ws', told', cl', h1, h2, h3⟩ := FIN.out
                    have hx := HX7.out.trans hx8
                    obtain ⟨ys, hy1, hy2⟩ := h2
                    exact ⟨D', S', all', ws', told', cl', h1.ext hx, ⟨ys, hy1, own_ext hy2 hx⟩, h3⟩)
                  clear hx8
                  go_wp2_with fail
                  go_loopw [126] (fun i wx => i = .int .i64 0 ∧ wx = w8) (fun _ _ => 0)
                  case atStart => exact ⟨rfl, rfl⟩
                  case round =>
                    obtain ⟨rfl, hw8⟩ := hrel
                    obtain rfl : w8 = wr := hw8.symm
                    clear hw8
                    go_wp2_with fail
                    go_meet
                    exact FIN2.out
                | false =>
                  have hwsb : ∀ x ∈ ws, x < 256 := by rw [hF.left]; exact fun x hx => hby.out x ((leftF_small all).2 x hx)
                  have hwsl : ws.length ≤ 1048576 * 200 := by rw [hF.left]; have := (leftF_small all).1; omega
                  have FO := Lib.hid (feed_open w6 r S ws (some ⟨fb, 0, none⟩) np cF ps hF.rdr hwsb Hnp.out Hpb.out (rd_take (Rd.of_own OF6.out)) (by omega))
                  have hps9 := parse_step (xs := all) (ys := ps) (hF.op rfl).2.2
                  rw [← hF.left] at hps9
                  have HPS := Lib.hid hps9
                  have HTO := Lib.hid (hF.op rfl).2.1
                  have hpsm := parse_small ((ws ++ ps).length + 1) (ws ++ ps) (by omega)
                  have hbb : ∀ qs ∈ (parse (ws ++ ps)).1, qs.length ≤ 9223372036854775807 ∧ ∀ x ∈ qs, x < 256 := fun qs hq => ⟨by have := (hpsm.2.2 qs hq).1; omega, fun x hx => (List.mem_append.1 ((hpsm.2.2 qs hq).2 x hx)).elim (hwsb x) (Hpb.out x)⟩
                  have Hbb := Lib.hid hbb
                  have hcnt : (parse (ws ++ ps)).1.length ≤ 1048576 * 300 := by have h9 := hpsm.1; rw [List.length_append, Hnp.out] at h9; omega
                  have HCNT := Lib.hid hcnt
                  clear hF hfr hwsb hwsl hps9 hpsm hbb hcnt
                  go_wp2_with fail
                  refine FO.out.mono ?_
                  rintro e w7 hFR
                  obtain ⟨S', A7, n7, c7, rfl, hn7, hS7, hP7, hR7, hg7⟩ := feedR_any hFR
                  have g7 : GB w6 w7 (· = r) := (GB.refl w6 _).grown hg7 (fun q e => .inl (by injection e with e; exact e.symm))
                  have hdoc7 := HF.out.doc.gb g7 (fun i hi e => HF.out.rD (e ▸ hi))
                  have hw07 : w.heap.size ≤ w7.heap.size := Nat.le_trans HF.out.out.size g7.size
                  have hP7r : Rd w7 Ai (vals .u8 ps) := Hri.out.ext (g7.to_ext HF.out.out (fun i e => e ▸ HF.out.rge))
                  have DF := Lib.hid (docFeed_open w7 w.heap.size d told D all Ai np ci ps hdoc7 hby.out Hnp.out Hpb.out hP7r (by omega) (by rw [HPS.out.1, List.length_append, ← HTO.out]; omega) hw07)
                  have HP7 := Lib.hid hP7; have HR7 := Lib.hid hR7; have HG7 := Lib.hid hg7; have HS7 := Lib.hid hS7; have HN7 := Lib.hid hn7; have G7 := Lib.hid g7
                  obtain ⟨ee, hee⟩ : ∃ ee, endF (ws ++ ps) = ee := ⟨_, rfl⟩
                  rw [hee]
                  have HEE := Lib.hid hee
                  clear hFR hP7 hR7 hg7 hS7 hn7 hdoc7 hP7r hee g7
                  go_wp2_with fail
                  refine DF.out.mono ?_
                  rintro e w8 ⟨B8, c8, D8, rfl, hB8, hD8, g8, hDD8⟩
                  have hdrop : (parse (all ++ ps)).1.drop told = (parse (ws ++ ps)).1 := by rw [HPS.out.1, HTO.out, List.drop_left]
                  have hlen8 : (parse (all ++ ps)).1.length - told = n7 := by rw [HPS.out.1, HTO.out, List.length_append, ← HN7.out]; omega
                  rw [hdrop] at hB8
                  rw [hlen8, HPS.out.2.1, HEE.out]
                  have hSD : ∀ i, D i → i < S' := fun i hi => by have := (HF.out.dlt i hi).2; have := HS7.out.1; omega
                  have PL8 := Lib.hid (HP7.out.gbn g8 hSD)
                  have SA := Lib.hid (refSame_true w8 A7 B8 n7 c7 c8 (parse (ws ++ ps)).1 HN7.out (by have := HCNT.out; have := HN7.out; omega) Hbb.out PL8.out.rd hB8)
                  have FD8 := Lib.hid (HF.out.feed Hpb.out HR7.out HG7.out HS7.out hD8 g8 hDD8)
                  have HDD8 := Lib.hid hDD8; have G8 := Lib.hid g8
                  have G68 := Lib.hid (show GB w6 w8 (fun i => i = r ∨ D i) from (G7.out.more (fun i _ e => .inl e)).trans g8 (fun i e => .inl (.inr e)))
                  clear hB8 hD8 g8 hDD8 hdrop hlen8
                  go_wp2_with fail
                  refine (toE_q SA.out).mono ?_
                  rintro e w9 ⟨rfl, hx9⟩
                  have g69 := G68.out.ext hx9
                  have hOF9 := g69.own OF6.out (fun q e e2 => by
                    injection e with e
                    subst e
                    rcases e2 with e2 | e2
                    · exact HFR.out.2.2 e2
                    · exact HFR.out.1 e2)
                  have hP9 : Rd w9 Ai (vals .u8 ps) := Hri.out.ext (FD8.out.out.trans hx9)
                  have KT9 := Lib.hid (kept_true (some ⟨fb, 0, none⟩) Ai np m3 cF ci ps w9 Hnp.out HM3.out hcF (by omega) Hpb.out (Rd.of_own hOF9) hP9)
                  have OF9 := Lib.hid hOF9; have FD9 := Lib.hid (FD8.out.ext hx9); have PL9 := Lib.hid (PL8.out.ext hx9); have HX9 := Lib.hid hx9
                  clear hx9 hOF9 hP9 g69
                  go_wp2_with fail
                  refine (toE_q KT9.out).mono ?_
                  rintro e w10 ⟨rfl, hx10⟩
                  have OF10 := Lib.hid (own_ext OF9.out hx10); have FD10 := Lib.hid (FD9.out.ext hx10); have PL10 := Lib.hid (PL9.out.ext hx10)
                  have G710 : Hid (GB w7 w10 D) := Lib.hid ((G8.out.ext HX9.out).ext hx10)
                  have HR10 : Hid (∀ wf, GB w10 wf (fun i => S' ≤ i ∧ i < w7.heap.size) → FeedF w r d (1048576 * (k + 1)) fb m3 cF wf) := Lib.hid (fun wf gf => by
                    have hno : ∀ i, (S' ≤ i ∧ i < w7.heap.size) → ¬ D8 i ∧ i ≠ r ∧ ¬ (w6.heap.size ≤ i ∧ i < S') ∧ w.heap.size ≤ i := fun i hi => by
                      have h1 := HS7.out.1; have h2 := HF.out.rlt; have h3 := HF.out.out.size
                      refine ⟨fun e => ?_, by omega, by omega, by omega⟩
                      rcases HDD8.out i e with e | e
                      · have := (HF.out.dlt i e).2; omega
                      · omega
                    refine ⟨D8, _, _, _, _, _, (FD10.out.gb gf hno).more (by rw [Hnp.out]; omega), ?_, fun e => ?_, fun e => ?_, HFR.out.2.2⟩
                    · obtain ⟨ys, hy1, hy2⟩ := hbr.out
                      have e1 := HFB.out.2; have e2 := HS36.out; have e3 := HS7.out.1
                      refine ⟨ps ++ [165, 90, 165], fun y hy => ?_, own_base (gf.own OF10.out (fun q e => by
                        injection e with e
                        have e9 : fb = q := e
                        subst e9
                        exact fun e => by omega)) HX0.out.size⟩
                      rcases List.mem_append.1 hy with hy | hy
                      · exact Hpb.out y hy
                      · simp at hy; omega
                    · rcases HDD8.out fb e with e | e
                      · exact HFR.out.1 e
                      · have e1 := HFB.out.2; have e2 := HS36.out; have e3 := HG7.out.size; omega
                    · have e1 := HFB.out.2; have e2 := HS36.out; omega)
                  clear hx10
                  by_cases hn70 : n7 = 0
                  · subst hn70
                    have FIN := Lib.hid (HR10.out w10 (GB.refl w10 _))
                    go_wp2_with fail
                    go_loopw [126] (fun i wx => i = .int .i64 0 ∧ wx = w10) (fun _ _ => 0)
                    case atStart => exact ⟨rfl, rfl⟩
                    case round =>
                      obtain ⟨rfl, hw10⟩ := hrel
                      obtain rfl : w10 = wr := hw10.symm
                      clear hw10
                      go_wp2_with fail
                      go_meet
                      exact FIN.out
                  · obtain ⟨hb, gs, rfl, hhb, hpw, hgs, hPT⟩ := HP7.out.toT (by omega)
                    have hnc7 := own_cap hPT.choose_spec.1
                    have PT10 := Lib.hid (hPT.gbn G710.out hSD)
                    have HPW := Lib.hid hpw; have HGS := Lib.hid hgs
                    have hn7b : n7 ≤ 1048576 * 300 := by have := HCNT.out; have := HN7.out; omega
                    clear hPT hpw hgs hSD
                    go_wp2_with fail
                    go_loopw [126] (fun i wx => ∃ j : Nat, j ≤ n7 ∧ i = .int .i64 (j : Int) ∧ PLt wx S' hb n7 c7 j (parse (ws ++ ps)).1 gs ∧ GB w10 wx (fun i => S' ≤ i ∧ i < w7.heap.size)) (fun i _ => n7 - (intOf i).toNat)
                    case atStart => exact ⟨0, Nat.zero_le _, rfl, PT10.out, GB.refl w10 _⟩
                    case round =>
                      obtain ⟨j, hj, rfl, hPT, hG⟩ := hrel
                      have HG := Lib.hid hG
                      by_cases hjn : j < n7
                      · obtain ⟨vs, hov, hrows⟩ := hPT
                        obtain ⟨qs, hqs⟩ : ∃ qs, (parse (ws ++ ps)).1[j]? = some qs := ⟨_, List.getElem?_eq_getElem (by rw [HN7.out]; exact hjn)⟩
                        obtain ⟨g, cg, hgj, hghb, hvj, hrow⟩ := hrows j (Nat.le_refl j) qs hqs
                        obtain ⟨lq, hlq⟩ : ∃ lq, qs.length = lq := ⟨_, rfl⟩
                        rw [hlq] at hvj hrow
                        have hbq := (Hbb.out qs (List.mem_of_getElem? hqs)).2
                        have hlqb : lq ≤ 1048576 * 300 := by
                          rw [← hlq]
                          have := (parse_small ((ws ++ ps).length + 1) (ws ++ ps) (by omega)).2.2 qs (List.mem_of_getElem? hqs)
                          omega
                        have hcj : wr.cell? ⟨hb, j, none⟩ = some (.slice (some ⟨g, 0, none⟩) lq cg) := by rw [World.ownsRow.cellAt hov j (by omega)]; exact hvj
                        have hfj := hov.frozenAt j
                        have hgS := (hrow.lt g rfl).1
                        have hgW : g < w7.heap.size := HGS.out g (List.mem_of_getElem? hgj)
                        have HOV := Lib.hid hov; have HROWS := Lib.hid hrows; have HGJ := Lib.hid hgj
                        have hcg := own_cap hrow
                        have BR := Lib.hid (show ByteRow wr S' (.slice (some ⟨g, 0, none⟩) lq cg) lq from ⟨qs, hbq, hrow⟩)
                        have hjj : (j : Int) < (n7 : Int) := by omega
                        have hj0 : (0 : Int) ≤ (j : Int) := by omega
                        have HJN := Lib.hid hjn
                        have hSwr : S' ≤ wr.heap.size := by have := (hov.lt hb rfl); omega
                        clear hov hrows hgj hvj hrow hbq hqs hlq hG hjn hj
                        go_wp2_with fail
                        go_loopw [134] (fun i wy => ∃ kk : Nat, kk ≤ lq ∧ i = .int .i64 (kk : Int) ∧ ByteRow wy S' (.slice (some ⟨g, 0, none⟩) lq cg) lq ∧ GB wr wy (· = g)) (fun i _ => lq - (intOf i).toNat)
                        case atStart => exact ⟨0, Nat.zero_le _, rfl, BR.out, GB.refl wr _⟩
                        case round =>
                          obtain ⟨kk, hkk, rfl, hBy, hGy⟩ := hrel
                          have cj2 := hGy.cell hcj (fun e => hghb e.symm)
                          have hkkb : kk ≤ 1048576 * 300 := by omega
                          by_cases hkq : kk < lq
                          · obtain ⟨y, hy, cy, fy⟩ := hBy.elem hkq
                            obtain ⟨z, hz, hxz⟩ := xor_u8 y 1 hy (by omega)
                            have hxz' : bits .xor .u8 (y : Int) 1 = (z : Int) := hxz
                            have BN := Lib.hid (hBy.set kk z hz)
                            have GN := Lib.hid (hGy.set g kk (.int .u8 (z : Int)) (.inl rfl))
                            have hki : (kk : Int) < (lq : Int) := by omega
                            have hk0 : (0 : Int) ≤ (kk : Int) := by omega
                            have HKQ := Lib.hid hkq
                            clear hBy hGy hxz hkq hkk
                            go_wp2_with fail
                            go_roundw
                            case rel => exact ⟨kk + 1, HKQ.out, by go_num, BN.out, GN.out⟩
                            case measure => simp [intOf]; have := HKQ.out; omega

                          · have hkd : ¬ (kk : Int) < (lq : Int) := by omega
                            have HGY := Lib.hid hGy
                            obtain ⟨ys, hys, hoy⟩ := hBy
                            have HOY := Lib.hid hoy
                            have hsy := hGy.size
                            clear hGy hys hoy hkq hkk
                            go_wp2_with (first | (at_builtin; refine app_u8 _ rfl (.tmp 152) (.tmp 153) rfl S' rfl (own_ext HOY.out ((Ext.refl _).alloc _)) rfl (m := 2) (news := [9, 9]) rfl (rd_new _ _ _) (by omega) (by simp; omega) ?_; intro B11 cb11 w11 hown11 hgrow11 hblk11; have G11 := Lib.hid (((GB.refl wr (· = g)).alloc (.cells #[.int .u8 9, .int .u8 9] 5)).grown hgrow11 (fun q e => .inl (by injection e with e; exact e.symm))); have O11 := Lib.hid (G11.out.own (HGY.out.own HOV.out (fun q e e2 => by injection e with e; exact hghb (e2.symm.trans e.symm))) (fun q e e2 => by injection e with e; exact hghb (e2.symm.trans e.symm))); have c11 := G11.out.cell cj2 (fun e => hghb e.symm); have f11 := O11.out.frozenAt j; clear hown11 hgrow11 hblk11) | fail)
                            go_roundw
                            case rel =>
                              have GF := (((HGY.out.trans G11.out (fun i e => .inl e)).more (fun i _ e => .inl e : ∀ i, i < _ → i = g → i = g ∨ i = hb)).set hb j (.slice B11 (lq + 2) cb11) (.inl (.inr rfl)))
                              exact ⟨j + 1, HJN.out, by go_num, PLt.next HROWS.out HPW.out HGJ.out GF (fun i e => e) (O11.out.stored j _).1, HG.out.trans GF (fun i e => .inl (e.elim (fun e => e ▸ ⟨hgS, hgW⟩) (fun e => e ▸ hhb)))⟩
                            case measure => simp [intOf]; have := HJN.out; omega
                      · have FIN := Lib.hid (HR10.out _ hG)
                        clear hPT hG
                        go_wp2_with fail
                        go_meet
                        exact FIN.out
            case rest =>
              have HK := Lib.hid hcut
              have hwfb : w.heap.size ≤ fb := Nat.le_trans HX0.out.size HFB.out.1
              have hm3b : m3 ≤ 1048579 := by have := HM3.out; omega
              clear hF hfr hcut
              go_wp2_with fail
              go_loopw [159] (fun i wx => ∃ j : Nat, j ≤ m3 ∧ i = .int .i64 (j : Int) ∧ FeedF w r d (1048576 * (k + 1)) fb m3 cF wx) (fun i _ => m3 - (intOf i).toNat)
              case atStart => exact ⟨0, Nat.zero_le _, rfl, HK.out⟩
              case round =>
                obtain ⟨j, hj, rfl, hFj⟩ := hrel
                by_cases hjm : j < m3
                · obtain ⟨y, hy, cy, fy⟩ := hFj.elem hjm
                  obtain ⟨z, hz, hxz⟩ := xor_u8 y 5 hy (by omega)
                  have hxz' : bits .xor .u8 (y : Int) 5 = (z : Int) := hxz
                  have FN := Lib.hid (hFj.set j z hz hwfb)
                  have hji : (j : Int) < (m3 : Int) := by omega
                  have hj0 : (0 : Int) ≤ (j : Int) := by omega
                  have HJM := Lib.hid hjm
                  clear hFj hxz hjm hj
                  go_wp2_with fail
                  go_roundw
                  case rel => exact ⟨j + 1, HJM.out, by go_num, FN.out⟩
                  case measure => simp [intOf]; have := HJM.out; omega
                · have hji : ¬ (j : Int) < (m3 : Int) := by omega
                  obtain ⟨D9, S9, all9, ws9, told9, cl9, hF9⟩ := hFj.out
                  have WA := Lib.hid (waiting_any wr r S9 ws9 cl9 hF9.rdr)
                  have DW := Lib.hid (docWaiting_any wr w.heap.size d told9 D9 all9 cl9 hF9.doc hF9.by_ (by have := hF9.len; omega))
                  have hwq : waitN all9 cl9 = ws9.length := by
                    cases cl9 with
                    | true => rw [hF9.shut rfl]; rfl
                    | false => rw [(hF9.op rfl).1]; rfl
                  rw [hwq] at DW
                  obtain ⟨nw, hnw⟩ : ∃ nw, ws9.length = nw := ⟨_, rfl⟩
                  rw [hnw] at WA DW
                  have HO := Lib.hid hFj.out
                  clear hFj hF9 hwq hnw hjm hj
                  go_wp2_with fail
                  refine WA.out.mono ?_
                  rintro e w7 ⟨rfl, rfl⟩
                  go_wp2_with fail
                  refine DW.out.mono ?_
                  rintro e w7 ⟨rfl, hx7⟩
                  have HF7 := Lib.hid (HO.out.ext hx7)
                  clear hx7
                  go_wp2_with fail
                  go_roundw
                  case rel => exact ⟨k + 1, hlt, h200, by go_num, HF7.out⟩
                  case measure => simp [intOf]; omega
        · have HX := Lib.hid HI.out.out
          go_wp2_with fail
          go_meet
          exact HX.out
      · have HX := Lib.hid hI.out
        clear hI
        go_wp2_with fail
        go_meet
        exact HX.out
  case rest =>
    go_wp2_with fail
    go_ret
    exact retTrue hcut
end Go.Proofs.Ytkebkhgjoiiapaa
