/- PermScripts answers true. -/
import Derived.Test.YtemnhnhpaaoccaaScrB
import Derived.Deep.DeepCutAuto
import Derived.Test.YtemnhnhpaaoccaaFrame
namespace Go.Proofs.Ytemnhnhpaaoccaa
open Go.RowKit

set_option maxHeartbeats 8000000 in
set_option maxRecDepth 100000 in
theorem permScripts_walk (w : World) (p : Int) (_ : -9223372036854775808 ≤ p) (_ : p ≤ 9223372036854775807) (A : Option Addr) (n c : Nat) (xs : List Int) (hl : xs.length = n) (hb : ∀ z ∈ xs, -9223372036854775808 ≤ z ∧ z ≤ 9223372036854775807) (hr : Rd w A (xs.map (Value.int .i64))) (hnc : n ≤ c) (hz : n ≤ 17592186043904) :
    Calls Try.prog 6 #[.int .i64 p, .slice A n c] w (RetTrue w) := by
  have hr' : Rd w A (ivals xs) := hr
  obtain ⟨q0, P0, hNI, hN, _⟩ := new_cases p
  obtain ⟨m, hmn, hm150, hmin, xs', hxl, hxr, hxb⟩ : ∃ m, m ≤ n ∧ m ≤ 150 ∧ (min (n : Int) 150 = (m : Int)) ∧ ∃ xs' : List Int, xs'.length = m ∧ Rd w A (ivals xs') ∧ ∀ z ∈ xs', -9223372036854775808 ≤ z ∧ z ≤ 9223372036854775807 := by
    refine ⟨min n 150, by omega, by omega, by omega, xs.take (min n 150), by rw [List.length_take, hl]; omega, ?_, fun z hz => hb z (List.mem_of_mem_take hz)⟩
    have h1 : xs = xs.take (min n 150) ++ xs.drop (min n 150) := (List.take_append_drop _ _).symm
    rw [h1] at hr'
    exact rd_takeI hr'
  have Hl := Lib.hid hxl; have Hr := Lib.hid hxr; have Hb := Lib.hid hxb; have HN := Lib.hid hN
  clear hl hr hr' hb hxl hxr hxb hN
  go_enter Try.func6, Try.ntmps6
  go_wp2_with fail
  refine (permAwake _).mono ?_
  rintro e w1 ⟨rfl, hx1⟩
  go_wp2_with fail
  refine (HN.out w1).mono ?_
  rintro e w2 ⟨rfl, hy2⟩
  have hx2 := hx1.trans hy2
  rcases hNI with ⟨hq, rfl, rfl, _⟩ | ⟨rfl, rfl, hp1, hp2⟩
  · clear hq
    go_wp2_with fail
    go_ret
    exact retTrue (hx2.alloc _)
  · obtain ⟨g, hg⟩ : ∃ g, w2.heap.size = g := ⟨_, rfl⟩
    have hwg : w.heap.size ≤ g := by rw [← hg]; exact hx2.size
    have hmc : m ≤ c := by omega
    have hI0 := Lib.hid (show ScrInv w g P0 0 (.slice none 0 0) (.slice none 0 0) (.slice none 0 0) (w2.alloc (.cells #[.int .i64 P0, .slice none 0 0] 26 (0, 0))) from
      ⟨[], none, none, 0, 0, 0, none, none, 0, 0, [], fun i => i = g, rfl, ⟨hp1, hp2, by simp; omega, fun j hj => by simp at hj⟩, blk_newk w2 _ hg, rfl, ⟨Rd.nil _ _, fun a e => (by cases e)⟩, ⟨Rd.nil _ _, fun a e => (by cases e)⟩, rfl, rfl, World.ownsRow_nil _ _ _ _, World.ownsRow_nil _ _ _ _, rfl, fun r hr => by simp at hr, rfl, fun i hi => (by
        have hi : i = g := hi
        subst hi
        rw [World.size_alloc]; omega), fun q e => (by cases e), fun q e => (by cases e), fun q e => (by cases e), hx2.alloc _⟩)
    go_wp2_with fail
    go_loopw [7, 8, 9, 48] (fun v7 v8 v9 i wr => ∃ k : Nat, k ≤ m ∧ i = .int .i64 (k : Int) ∧ ScrInv w g P0 k v7 v8 v9 wr) (fun _ _ _ i _ => m - (intOf i).toNat)
    case atStart => exact ⟨0, Nat.zero_le _, rfl, hI0.out⟩
    case round =>
      obtain ⟨k, hk, rfl, hI⟩ := hrel
      by_cases hlt : k < m
      · obtain ⟨L, As, Ah, cs, ch, m', B, C, cB, cC, R, F, h1, h2, h3, rfl, h5, h6, rfl, rfl, h9, h10, h11, h12, h13, h14, h15, h16, h17, h18⟩ := hI
        obtain ⟨b, off, hA, _, hc⟩ := (Hr.out.ext h18).atI (j := k) (by rw [Hl.out]; exact hlt)
        obtain ⟨x, Hx⟩ : ∃ x, Hid (xs'.getD k 0 = x) := ⟨_, rfl⟩
        have Hxb := Lib.hid (show -9223372036854775808 ≤ x ∧ x ≤ 9223372036854775807 by rw [← Hx.out]; exact Hb.out _ (mem_getD.2 ⟨k, by rw [Hl.out]; exact hlt, rfl⟩))
        rw [Hx.out] at hc
        subst hA
        have hbltB : ∀ q, (Value.slice B k cB).ownBlock = some q → q < wr.heap.size := fun q e => (h9.lt q e).2
        have hbltC : ∀ q, (Value.slice C k cC).ownBlock = some q → q < wr.heap.size := fun q e => (h10.lt q e).2
        have hneC : (Value.slice C k cC).ownBlock = none ∨ (Value.slice C k cC).ownBlock ≠ (Value.slice B k cB).ownBlock := app_ne (W := wr) (Nat.le_refl _) hbltB h17 (.inl rfl)
        have hneB : (Value.slice B k cB).ownBlock = none ∨ (Value.slice B k cB).ownBlock ≠ (Value.slice C k cC).ownBlock := app_ne (W := wr) (Nat.le_refl _) hbltC (fun q e1 e2 => h17 q e2 e1) (.inl rfl)
        have hgw : g < wr.heap.size := blk_lt h3
        have e0 : wr.cell? ⟨g, 0, none⟩ = some (.int .i64 P0) := blk_cell h3 0
        have e1 : wr.cell? ⟨g, 1, none⟩ = some (.slice As m' cs) := blk_cell h3 1
        have hk1000 : k ≤ 1000 := by omega
        have H9 := Lib.hid h9; have H10 := Lib.hid h10
        have HApp := Lib.hid (fun (z : World) (B' C' : Option Addr) (cB' cC' : Nat) hB k9 k10 b1 b2 b3 => ScrInv.app (z := z) (B' := B') (C' := C') (cB' := cB') (cC' := cC') (cs := cs) (ch := ch) hwg h1 h2 h3 h5 h6 h11 h12 h13 h14 h15 h16 h9 h10 h18 hB k9 k10 b1 b2 b3)
        have H17 := Lib.hid h17
        clear h1 h2 h5 h6 h9 h10 h11 h12 h13 h14 h15 h16 h17 HN
        have h18' := Lib.hid h18
        have hng : ¬ ((Value.slice B k cB).ownBlock = some g ∨ (Value.slice C k cC).ownBlock = some g) := fun e => by
          rcases e with e | e
          · have := H9.out.lt g e; omega
          · have := H10.out.lt g e; omega
        have e0' : wr.cell? ⟨g, 0, none⟩ = some (.int .i64 P0) := e0
        have e1' : wr.cell? ⟨g, 1, none⟩ = some (.slice As m' cs) := e1
        have d0 : wr.drew.cell? ⟨g, 0, none⟩ = some (.int .i64 P0) := e0
        have d1 : wr.drew.cell? ⟨g, 1, none⟩ = some (.slice As m' cs) := e1
        go_upto_region 13 with fail
        go_cut [7, 8] (fun v7 v8 wd => ScrInv w g P0 (k + 1) v7 v8 (.slice Ah m' ch) wd)
        case first =>
          go_region_held3 (fun w' => w'.cell? ⟨g, 0, none⟩ = some (.int .i64 P0) ∧ w'.cell? ⟨g, 1, none⟩ = some (.slice As m' cs))
            (((try go_split_ands); refine ⟨?_, ?_⟩ <;> first | assumption | (with_reducible exact d0) | (with_reducible exact d1) | (with_reducible exact t0) | (with_reducible exact t1) | (with_reducible exact drew_cell (cell_past e0' _)) | (with_reducible exact drew_cell (cell_past e1' _)) | (with_reducible exact drew_cell (cell_past (cell_past e0' _) _)) | (with_reducible exact drew_cell (cell_past (cell_past e1' _) _)) | (with_reducible exact cell_past t0 _) | (with_reducible exact cell_past t1 _)))
            (first
              | (refine step_app_sema (y := .int .i64 P0) (z := .slice As m' cs) _ rfl (.tmp 52) (.tmp 54) rfl (g + 1) (by rfl) (own_ext H9.out (by first | exact (Ext.refl wr).drew | exact ((Ext.refl wr).alloc _).drew | exact (((Ext.refl wr).alloc _).alloc _).drew)) (by rfl) (by first | exact rdD (rd_newk wr [.int .i64 P0, .slice As m' cs] _ rfl) | exact rdD ((rd_newk wr [.int .i64 P0, .slice As m' cs] _ rfl).alloc _) | exact rdD (rd_newk (wr.alloc _) [.int .i64 P0, .slice As m' cs] _ (by simp))) rfl rfl hk1000 (Nat.le_trans hgw (ext_size (by first | exact (Ext.refl wr).drew | exact ((Ext.refl wr).alloc _).drew | exact (((Ext.refl wr).alloc _).alloc _).drew))) ?_; intro B' cB' w1' oB gB bB; obtain ⟨G1, oC, hSz⟩ := app_first (W := wr) (S := fun i => (Value.slice B k cB).ownBlock = some i ∨ (Value.slice C k cC).ownBlock = some i) (by first | exact (Ext.refl wr).drew | exact ((Ext.refl wr).alloc _).drew | exact (((Ext.refl wr).alloc _).alloc _).drew) gB (fun q e => Or.inl e) H10.out hneC; have nB := app_ne (W := wr) hSz hbltC (fun q e1 e2 => H17.out q e2 e1) bB; have dB := new_or (W := wr.heap.size) hSz bB; (first | (have rC : Rd w1' (some ⟨wr.heap.size + 1, 0, none⟩) [.int .i64 (m' : Int)] := rd_keep (W := wr) (rd_newk (wr.alloc _) [.int .i64 (m' : Int)] 3 (by simp)) (grown_undrew gB) hbltB (by omega)) | (have rC : Rd w1' (some ⟨wr.heap.size, 0, none⟩) [.int .i64 (m' : Int)] := rd_keep (W := wr) ((rd_newk wr [.int .i64 (m' : Int)] 3 rfl).alloc _) (grown_undrew gB) hbltB (Nat.le_refl _)) | skip); have t0 := G1.cell e0 hng; have t1 := G1.cell e1 hng)
              | (refine step_app_int (y := .int .i64 (m' : Int)) _ rfl (.tmp 56) (.tmp 60) rfl (g + 1) (by rfl) (by first | exact oC | exact oC.alloc _) (by rfl) (by first | exact rC | exact rd_newk w1' [.int .i64 (m' : Int)] _ rfl) rfl hk1000 (Nat.le_trans hgw (GB.size (w := wr) (by first | exact G1 | exact G1.alloc _))) ?_; intro C' cC' w2' oC2 gC bC; obtain ⟨G2, oB2, hSz2, hlt2⟩ := app_second (W := wr) (S := fun i => (Value.slice B k cB).ownBlock = some i ∨ (Value.slice C k cC).ownBlock = some i) (by first | exact G1 | exact G1.alloc _) gC (fun q e => Or.inr e) (by first | exact oB | exact oB.alloc _) nB; have dC := new_or (W := wr.heap.size) hSz2 bC; have HFin := Lib.hid (HApp.out w2' B' C' cB' cC' G2 oB2 oC2 dB dC (fin_ne nB hlt2 bC)); have t0 := G2.cell e0 hng; have t1 := G2.cell e1 hng))
          all_goals
            go_wp2_with fail
            go_meet
            exact HFin.out
        case rest =>
          have HI := Lib.hid hcut
          clear HApp H9 H10 H17 hbltB hbltC hneC hneB hng e0 e1 e0' e1' d0 d1 h3 h18 h18' hI0
          obtain ⟨L, As, Ah2, cs, ch2, m2, _, _, _, _, _, _, hl, hF, h3, h4, h5, h6, hrest⟩ := hcut
          clear hrest
          injection h4 with h4a h4b h4c
          subst h4a h4b h4c
          have HF := Lib.hid hF; have K := Lib.hid h3; have Hs := Lib.hid h5.1; have Hh := Lib.hid h6.1
          have hm64 : m' ≤ 64 := by have h1 := hF.2.1; have h2 := hF.2.2.1; rw [hl] at h2; omega
          have hm1 : m' ≤ 17592186044416 := by omega
          have hwP : IntKind.i64.wrap (P0 - (m' : Int)) = P0 - (m' : Int) := by rw [IntKind.wrap_i64]; omega
          have J1 := Lib.hid (show k + 1 ≤ m by omega)
          clear hF h3 h5 h6
          by_cases hneg : x < 0
          · obtain ⟨t, ht⟩ : ∃ t, -(x + 1) = t := ⟨_, rfl⟩
            have hwx1 : IntKind.i64.wrap (x + 1) = x + 1 := by have := Hxb.out; rw [IntKind.wrap_i64]; omega
            have hwx2 : IntKind.i64.wrap (-(x + 1)) = t := by have := Hxb.out; rw [IntKind.wrap_i64]; omega
            clear ht
            go_wp2_with fail
            refine (toE_q (refHas_any wc t Ah m' ch L hl hm1 Hh.out)).mono ?_
            rintro e w3 ⟨rfl, hy3⟩
            have K3 := Lib.hid (blk_ext K.out hy3)
            have b0 := blk_cell K3.out 0; have b1 := blk_cell K3.out 1
            go_wp2_with fail
            refine (permFree_any w3 P0 As m' cs L hl hm1 (Hs.out.ext hy3)).mono ?_
            rintro e w4 ⟨fr, rfl, hf1, _, hy4⟩
            rw [formE_yes HF.out]
            have hfr := hf1 HF.out
            subst hfr
            have hx4 := hy3.trans hy4
            have K4 := Lib.hid (blk_ext K3.out hy4)
            clear b0 b1 hf1 hy3 hy4 K3
            have b0 := blk_cell K4.out 0; have b1 := blk_cell K4.out 1
            obtain ⟨q, Pn, mn, Ln, hG, hC⟩ := give_cases P0 t m' L hl (by omega)
            have HC := Lib.hid hC; clear hC
            go_wp2_with fail
            refine (HC.out w4 As cs (Hs.out.ext hx4)).mono ?_
            rintro e w5 ⟨A5, c5, rfl, ho5, hy5⟩
            have hx5 := hx4.trans hy5
            rcases hG with ⟨_, rfl, rfl, rfl, hG⟩ | ⟨rfl, hPn, rfl, _, hm, kk, hkk, hkn, rfl⟩
            · have hm : t ∉ L ∧ q = 11 := by
                rcases hG with ⟨_, h⟩ | ⟨h1, _, h2⟩
                · exact absurd HF.out h
                · exact ⟨h2, h1⟩
              obtain ⟨hm, rfl⟩ := hm
              rw [decide_eq_false hm]
              clear hm hG b0 b1
              go_wp2_with fail
              go_roundw
              case rel => exact ⟨k + 1, J1.out, by go_num, HI.out.ext (hx5.alloc _)⟩
              case measure => simp [intOf]; omega
            · obtain rfl : P0 = Pn := hPn.symm
              rw [decide_eq_true hm]
              have hlen := Lib.hid (retS_len ho5); have hFd := Lib.hid (del_form (k := kk) HF.out (by rw [hl]; exact hkn))
              have hcd := fun W (hx : Ext wc W) => drop_del W P0 t Ah m' ch kk L hl (Hh.out.ext hx) HF.out hkk hm
              clear hkk hkn hm
              obtain ⟨W, hW⟩ : ∃ W, w5.alloc (.cells #[.int .i64 P0, .slice A5 (m' - 1) c5] 26 (0, 0)) = W := ⟨_, rfl⟩
              have hx5W : Ext w5 W := by rw [← hW]; exact (Ext.refl w5).alloc _
              have KV := Lib.hid (show W.heap[w5.heap.size]? = some (.cells #[.int .i64 P0, .slice A5 (m' - 1) c5] 26 (0, 0)) by rw [← hW]; exact blk_new w5 _)
              have hxW := hx5.trans hx5W
              have KG := Lib.hid (blk_ext K.out hxW)
              have CD := Lib.hid (hcd W.drew hxW.drew)
              have HO5 := Lib.hid ho5
              have r0 : W.cell? ⟨w5.heap.size, 0, none⟩ = some (.int .i64 P0) := blk_cell KV.out 0
              have r1 : W.cell? ⟨w5.heap.size, 1, none⟩ = some (.slice A5 (m' - 1) c5) := blk_cell KV.out 1
              have d0 : W.drew.cell? ⟨w5.heap.size, 0, none⟩ = some (.int .i64 P0) := r0
              have d1 : W.drew.cell? ⟨w5.heap.size, 1, none⟩ = some (.slice A5 (m' - 1) c5) := r1
              have hneg5 : w5.heap.size ≠ g := by have h1 := blk_lt K.out; have h2 := hx5.size; omega
              clear ho5
              go_upto_region 26 with fail
              (try rw [hW])
              clear hW b0 b1
              go_region_held3 (fun w' => w'.cell? ⟨w5.heap.size, 0, none⟩ = some (.int .i64 P0) ∧ w'.cell? ⟨w5.heap.size, 1, none⟩ = some (.slice A5 (m' - 1) c5))
                (((try go_split_ands); refine ⟨?_, ?_⟩ <;> first | assumption | (with_reducible exact d0) | (with_reducible exact d1) | (with_reducible exact s0) | (with_reducible exact s1) | (with_reducible exact cell_other (cell_other s0 hneg5) hneg5) | (with_reducible exact cell_other (cell_other s1 hneg5) hneg5) | (with_reducible exact drew_cell (cell_other (cell_other s0 hneg5) hneg5)) | (with_reducible exact drew_cell (cell_other (cell_other s1 hneg5) hneg5))))
                (first
                  | (go_at_call 23; (with_reducible refine CD.out.mono ?_); rintro e6 w6 ⟨A6, c6, rfl, ho6, hy6⟩; have HO6 := Lib.hid ho6; have hxW6 : Ext W w6 := ((Ext.refl W).drew).trans hy6; have s0 := ext_cell hxW6 r0; have s1 := ext_cell hxW6 r1; have KG6 := Lib.hid (blk_ext KG.out hxW6); have u0 := blk_cell KG6.out 0; have u1 := blk_cell KG6.out 1; have v0 := blk_frozen KG6.out 0; have v1 := blk_frozen KG6.out 1; clear ho6 hy6))
              all_goals
                go_wp2_with fail
                have hx56 := hx5W.trans hxW6
                have hst := ScrInv.store (cs' := c5) (ch' := c6) HI.out hwg (hx5.trans hx56) hlen.out hFd.out (own_in HO5.out hx4 hx56) (own_in HO6.out (hxW.drew) (Ext.refl w6)) ((Rd.of_own HO5.out).ext hx56) (Rd.of_own HO6.out)
                go_roundw
                case rel => exact ⟨k + 1, J1.out, by go_num, hst⟩
                case measure => simp [intOf]; omega
          · obtain ⟨t, ht⟩ : ∃ t, x = t := ⟨_, rfl⟩
            rw [ht] at hneg ⊢
            clear ht
            go_wp2_with fail
            refine (toE_q (refHas_any wc t Ah m' ch L hl hm1 Hh.out)).mono ?_
            rintro e w3 ⟨rfl, hy3⟩
            have K3 := Lib.hid (blk_ext K.out hy3)
            have b0 := blk_cell K3.out 0; have b1 := blk_cell K3.out 1
            go_wp2_with fail
            refine (permFree_any w3 P0 As m' cs L hl hm1 (Hs.out.ext hy3)).mono ?_
            rintro e w4 ⟨fr, rfl, hf1, _, hy4⟩
            rw [formE_yes HF.out]
            have hfr := hf1 HF.out
            subst hfr
            have hx4 := hy3.trans hy4
            have K4 := Lib.hid (blk_ext K3.out hy4)
            clear b0 b1 hf1 hy3 hy4 K3
            have b0 := blk_cell K4.out 0; have b1 := blk_cell K4.out 1
            obtain ⟨q, Pn, mn, Ln, hG, hC⟩ := take_cases P0 t m' L hl (by omega)
            have HC := Lib.hid hC; clear hC
            go_wp2_with fail
            refine (HC.out w4 As cs (Hs.out.ext hx4)).mono ?_
            rintro e w5 ⟨A5, c5, rfl, ho5, hy5⟩
            have hx5 := hx4.trans hy5
            rcases hG with ⟨_, rfl, rfl, rfl, hG⟩ | ⟨rfl, hPn, rfl, hs, _, hm, hlt9, kk, hkk, rfl⟩
            · rcases hG with ⟨rfl, hG⟩ | ⟨_, _, hG⟩ | ⟨rfl, hs, _, hm⟩ | ⟨rfl, hs, _, hm, hmp⟩
              · have hor : t < 1 ∨ 4611686018427387903 < t := by
                  by_cases h1 : t < 1
                  · exact .inl h1
                  · exact .inr (Int.not_le.1 fun h2 => hG ⟨by omega, h2⟩)
                rcases hor with h1 | h1
                · clear hG
                  have K5 := Lib.hid (blk_past (blk_ext K4.out hy5) (.cells #[.int .i64 0, .slice A5 0 c5] 26 (0, 0)))
                  clear b0 b1
                  have b0 := blk_cell K5.out 0; have b1 := blk_cell K5.out 1
                  go_wp2_with fail
                  refine (permHas_any _ P0 t As m' cs L hl (by omega) ((Hs.out.ext hx5).alloc _)).mono ?_
                  rintro e w7 ⟨hb7, rfl, hb7', _, hy7⟩
                  rw [formE_yes HF.out]
                  have hb8 := hb7' HF.out
                  subst hb8
                  clear hb7'
                  go_wp2_with fail
                  refine (toE_q (refHas_any w7 t Ah m' ch L hl (by omega) (((Hh.out.ext hx5).alloc _).ext hy7))).mono ?_
                  rintro e w8 ⟨rfl, hy8⟩
                  generalize decide (t ∈ L) = bb
                  go_wp2_with fail
                  go_roundw
                  case rel => exact ⟨k + 1, J1.out, by go_num, HI.out.ext ((hx5.alloc _).trans (hy7.trans hy8))⟩
                  case measure => simp [intOf]; omega
                · have h0 : ¬ t < 1 := by omega
                  clear hG
                  have K5 := Lib.hid (blk_past (blk_ext K4.out hy5) (.cells #[.int .i64 0, .slice A5 0 c5] 26 (0, 0)))
                  clear b0 b1
                  have b0 := blk_cell K5.out 0; have b1 := blk_cell K5.out 1
                  go_wp2_with fail
                  refine (permHas_any _ P0 t As m' cs L hl (by omega) ((Hs.out.ext hx5).alloc _)).mono ?_
                  rintro e w7 ⟨hb7, rfl, hb7', _, hy7⟩
                  rw [formE_yes HF.out]
                  have hb8 := hb7' HF.out
                  subst hb8
                  clear hb7'
                  go_wp2_with fail
                  refine (toE_q (refHas_any w7 t Ah m' ch L hl (by omega) (((Hh.out.ext hx5).alloc _).ext hy7))).mono ?_
                  rintro e w8 ⟨rfl, hy8⟩
                  generalize decide (t ∈ L) = bb
                  go_wp2_with fail
                  go_roundw
                  case rel => exact ⟨k + 1, J1.out, by go_num, HI.out.ext ((hx5.alloc _).trans (hy7.trans hy8))⟩
                  case measure => simp [intOf]; omega
              · exact absurd HF.out hG
              · have hs1 : ¬ t < 1 := by have := hs.1; omega
                have hs2 : ¬ 4611686018427387903 < t := by have := hs.2; omega
                rw [decide_eq_true hm]
                clear hs hm
                have K5 := Lib.hid (blk_past (blk_ext K4.out hy5) (.cells #[.int .i64 0, .slice A5 0 c5] 26 (0, 0)))
                clear b0 b1
                have b0 := blk_cell K5.out 0; have b1 := blk_cell K5.out 1
                go_wp2_with fail
                refine (permHas_any _ P0 t As m' cs L hl (by omega) ((Hs.out.ext hx5).alloc _)).mono ?_
                rintro e w7 ⟨hb7, rfl, hb7', _, hy7⟩
                rw [formE_yes HF.out]
                have hb8 := hb7' HF.out
                subst hb8
                clear hb7'
                go_wp2_with fail
                refine (toE_q (refHas_any w7 t Ah m' ch L hl (by omega) (((Hh.out.ext hx5).alloc _).ext hy7))).mono ?_
                rintro e w8 ⟨rfl, hy8⟩
                generalize decide (t ∈ L) = bb
                go_wp2_with fail
                go_roundw
                case rel => exact ⟨k + 1, J1.out, by go_num, HI.out.ext ((hx5.alloc _).trans (hy7.trans hy8))⟩
                case measure => simp [intOf]; omega
              · have hs1 : ¬ t < 1 := by have := hs.1; omega
                have hs2 : ¬ 4611686018427387903 < t := by have := hs.2; omega
                have hmb : ((m' : Int) == P0) = true := by simp [hmp]
                rw [decide_eq_false hm]
                clear hs hm hmp
                have K5 := Lib.hid (blk_past (blk_ext K4.out hy5) (.cells #[.int .i64 0, .slice A5 0 c5] 26 (0, 0)))
                clear b0 b1
                have b0 := blk_cell K5.out 0; have b1 := blk_cell K5.out 1
                go_wp2_with fail
                refine (permHas_any _ P0 t As m' cs L hl (by omega) ((Hs.out.ext hx5).alloc _)).mono ?_
                rintro e w7 ⟨hb7, rfl, hb7', _, hy7⟩
                rw [formE_yes HF.out]
                have hb8 := hb7' HF.out
                subst hb8
                clear hb7'
                go_wp2_with fail
                refine (toE_q (refHas_any w7 t Ah m' ch L hl (by omega) (((Hh.out.ext hx5).alloc _).ext hy7))).mono ?_
                rintro e w8 ⟨rfl, hy8⟩
                generalize decide (t ∈ L) = bb
                go_wp2_with fail
                go_roundw
                case rel => exact ⟨k + 1, J1.out, by go_num, HI.out.ext ((hx5.alloc _).trans (hy7.trans hy8))⟩
                case measure => simp [intOf]; omega
            · obtain rfl : P0 = Pn := hPn.symm
              have hs1 : ¬ t < 1 := by have := hs.1; omega
              have hs2 : ¬ 4611686018427387903 < t := by have := hs.2; omega
              have hmb : ((m' : Int) == P0) = false := by rw [beq_eq_false_iff_ne]; omega
              rw [decide_eq_false hm]
              have hlen := Lib.hid (retS_len ho5); have hFd := Lib.hid (ins_form hl HF.out hs hm hkk hlt9)
              have hcd := fun W (hx : Ext wc W) => put_ins W t Ah m' ch kk L hl (by omega) (Hh.out.ext hx) hkk hm
              clear hkk hlt9 hm hs
              obtain ⟨W, hW⟩ : ∃ W, w5.alloc (.cells #[.int .i64 P0, .slice A5 (m' + 1) c5] 26 (0, 0)) = W := ⟨_, rfl⟩
              have hx5W : Ext w5 W := by rw [← hW]; exact (Ext.refl w5).alloc _
              have KV := Lib.hid (show W.heap[w5.heap.size]? = some (.cells #[.int .i64 P0, .slice A5 (m' + 1) c5] 26 (0, 0)) by rw [← hW]; exact blk_new w5 _)
              have hxW := hx5.trans hx5W
              have KG := Lib.hid (blk_ext K.out hxW)
              have CD := Lib.hid (hcd W.drew hxW.drew)
              have HO5 := Lib.hid ho5
              have r0 : W.cell? ⟨w5.heap.size, 0, none⟩ = some (.int .i64 P0) := blk_cell KV.out 0
              have r1 : W.cell? ⟨w5.heap.size, 1, none⟩ = some (.slice A5 (m' + 1) c5) := blk_cell KV.out 1
              have d0 : W.drew.cell? ⟨w5.heap.size, 0, none⟩ = some (.int .i64 P0) := r0
              have d1 : W.drew.cell? ⟨w5.heap.size, 1, none⟩ = some (.slice A5 (m' + 1) c5) := r1
              have hneg5 : w5.heap.size ≠ g := by have h1 := blk_lt K.out; have h2 := hx5.size; omega
              clear ho5
              go_upto_region 30 with fail
              (try rw [hW])
              clear hW b0 b1
              go_region_held3 (fun w' => w'.cell? ⟨w5.heap.size, 0, none⟩ = some (.int .i64 P0) ∧ w'.cell? ⟨w5.heap.size, 1, none⟩ = some (.slice A5 (m' + 1) c5))
                (((try go_split_ands); refine ⟨?_, ?_⟩ <;> first | assumption | (with_reducible exact d0) | (with_reducible exact d1) | (with_reducible exact s0) | (with_reducible exact s1) | (with_reducible exact cell_other (cell_other s0 hneg5) hneg5) | (with_reducible exact cell_other (cell_other s1 hneg5) hneg5) | (with_reducible exact drew_cell (cell_other (cell_other s0 hneg5) hneg5)) | (with_reducible exact drew_cell (cell_other (cell_other s1 hneg5) hneg5))))
                (first
                  | (go_at_call 24; (with_reducible refine CD.out.mono ?_); rintro e6 w6 ⟨A6, c6, rfl, ho6, hy6⟩; have HO6 := Lib.hid ho6; have hxW6 : Ext W w6 := ((Ext.refl W).drew).trans hy6; have s0 := ext_cell hxW6 r0; have s1 := ext_cell hxW6 r1; have KG6 := Lib.hid (blk_ext KG.out hxW6); have u0 := blk_cell KG6.out 0; have u1 := blk_cell KG6.out 1; have v0 := blk_frozen KG6.out 0; have v1 := blk_frozen KG6.out 1; clear ho6 hy6))
              all_goals
                have hx56 := hx5W.trans hxW6
                have hst := ScrInv.store (cs' := c5) (ch' := c6) HI.out hwg (hx5.trans hx56) hlen.out hFd.out (own_in HO5.out hx4 hx56) (own_in HO6.out (hxW.drew) (Ext.refl w6)) ((Rd.of_own HO5.out).ext hx56) (Rd.of_own HO6.out)
                have HST := Lib.hid hst; clear hst
                have hx6 := hx5.trans hx56
                have hG2 := grown2 w6 g (.int .i64 P0) (.slice A5 (m' + 1) c5)
                have RS6 := Lib.hid (((Rd.of_own HO5.out).ext hx56).grown hG2 (fun a ha e => by injection e with e; have h1 := (own_in HO5.out hx4 hx56 a ha).1; have h2 := blk_lt K.out; omega))
                have RH6 := Lib.hid ((Rd.of_own HO6.out).grown hG2 (fun a ha e => by injection e with e; have h1 := (own_in HO6.out hxW.drew (Ext.refl w6) a ha).1; have h2 := blk_lt K.out; omega))
                have KG7 := Lib.hid (row2 KG6.out (.int .i64 P0) (.slice A5 (m' + 1) c5))
                obtain ⟨w6', hw6'⟩ : ∃ w6', (w6.setCell ⟨g, 0, none⟩ (.int .i64 P0)).setCell ⟨g, 1, none⟩ (.slice A5 (m' + 1) c5) = w6' := ⟨_, rfl⟩
                rw [hw6'] at HST RS6 RH6 KG7
                clear hG2 u0 u1 v0 v1 s0 s1
                go_upto_region 40 with fail
                (try rw [hw6'])
                clear hw6'
                have b0 := blk_cell KG7.out 0; have b1 := blk_cell KG7.out 1
                go_wp2_with fail
                refine (permHas_any _ P0 t A5 (m' + 1) c5 (insL L kk t) hlen.out (by omega) RS6.out).mono ?_
                rintro e w7 ⟨hb7, rfl, hb7', _, hy7⟩
                rw [formE_yes hFd.out]
                have hb8 := hb7' hFd.out
                subst hb8
                clear hb7'
                go_wp2_with fail
                refine (toE_q (refHas_any w7 t A6 (m' + 1) c6 (insL L kk t) hlen.out (by omega) (RH6.out.ext hy7))).mono ?_
                rintro e w8 ⟨rfl, hy8⟩
                generalize decide (t ∈ (insL L kk t)) = bb
                go_wp2_with fail
                go_roundw
                case rel => exact ⟨k + 1, J1.out, by go_num, HST.out.ext (hy7.trans hy8)⟩
                case measure => simp [intOf]; omega
      · obtain rfl : k = m := by omega
        obtain ⟨W0, rfl⟩ : ∃ W0, W0 = wr := ⟨_, rfl⟩
        obtain ⟨L, As, Ah, cs, ch, m', B, C, cB, cC, R, F, h1, h2, h3, rfl, h5, h6, rfl, rfl, h9, h10, h11, h12, h13, h14, h15, h16, h17, h18⟩ := hI
        have K := Lib.hid h3; have Hs := Lib.hid h5.1; have Hh := Lib.hid h6.1; have H9 := Lib.hid h9; have H10 := Lib.hid h10; have H11 := Lib.hid h11; have H12 := Lib.hid h12; have HL := Lib.hid h1
        have hm64 : m' ≤ 64 := by have k1 := h2.2.1; have k2 := h2.2.2.1; rw [h1] at k2; omega
        have hk150 : k ≤ 150 := hm150
        clear h1 h2 h3 h5 h6 h9 h10 h11 h12 h13 h14 h15 h16 h17 hI0 HN hlt hk
        go_wp2_with fail
        go_loopw [161] (fun i wr => ∃ j : Nat, j ≤ k ∧ i = .int .i64 (j : Int) ∧ Ext W0 wr) (fun i _ => k - (intOf i).toNat)
        case atStart => exact ⟨0, Nat.zero_le _, rfl, Ext.refl W0⟩
        case round =>
          obtain ⟨j, hj, rfl, hx9⟩ := hrel
          by_cases hjk : j < k
          · obtain ⟨gB, rfl, _, _⟩ := own_block H9.out (by omega)
            obtain ⟨gC, rfl, _, _⟩ := own_block H10.out (by omega)
            obtain ⟨r, hr⟩ : ∃ r, R[j]? = some r := ⟨_, List.getElem?_eq_getElem (by rw [H11.out]; exact hjk)⟩
            obtain ⟨Lr, l1, l2, l3⟩ := H12.out r (List.mem_of_getElem? hr)
            have hrow := rowsV_get P0 R j r hr
            have hcnt : (cntV R)[j]? = some (.int .i64 (r.2.1 : Int)) := by simp [cntV, hr]
            obtain ⟨rA, rn, rc⟩ := r
            have c0 : wr.cell? ⟨gB, j * 2, none⟩ = some (.int .i64 P0) := ext_cell hx9 ((H9.out.cellAt (j * 2) (by omega)).trans (by rw [Nat.mul_comm]; exact hrow.1))
            have c1 : wr.cell? ⟨gB, j * 2 + 1, none⟩ = some (.slice rA rn rc) := ext_cell hx9 ((H9.out.cellAt (j * 2 + 1) (by omega)).trans (by rw [Nat.mul_comm]; exact hrow.2))
            have c2 : wr.cell? ⟨gC, j, none⟩ = some (.int .i64 (rn : Int)) := ext_cell hx9 ((H10.out.cellAt j (by omega)).trans hcnt)
            have hrn : rn ≤ 64 := by have k1 := l2.2.1; have k2 := l2.2.2.1; have k3 : Lr.length = rn := l1; rw [k3] at k2; omega
            have CK := Lib.hid (fun W (hx : Ext W0 W) => check_any W P0 rA rn rc Lr l1 (by omega) (l3.1.ext hx))
            rw [formE_yes l2] at CK
            have J1 := Lib.hid (show j + 1 ≤ k by omega)
            clear hr l1 l2 l3 hrow hcnt H12
            obtain ⟨W1, hW1⟩ : ∃ W1, wr.alloc (.cells #[.int .i64 P0, .slice rA rn rc] 26 (0, 0)) = W1 := ⟨_, rfl⟩
            have hx01 : Ext W0 W1 := by rw [← hW1]; exact hx9.alloc _
            have KV := Lib.hid (show W1.heap[wr.heap.size]? = some (.cells #[.int .i64 P0, .slice rA rn rc] 26 (0, 0)) by rw [← hW1]; exact blk_new wr _)
            have r2 : W1.cell? ⟨gC, j, none⟩ = some (.int .i64 (rn : Int)) := by rw [← hW1]; exact cell_past c2 _
            have r0 : W1.cell? ⟨wr.heap.size, 0, none⟩ = some (.int .i64 P0) := blk_cell KV.out 0
            have r1 : W1.cell? ⟨wr.heap.size, 1, none⟩ = some (.slice rA rn rc) := blk_cell KV.out 1
            have d0 : W1.drew.cell? ⟨wr.heap.size, 0, none⟩ = some (.int .i64 P0) := r0
            have d1 : W1.drew.cell? ⟨wr.heap.size, 1, none⟩ = some (.slice rA rn rc) := r1
            have d2 : W1.drew.cell? ⟨gC, j, none⟩ = some (.int .i64 (rn : Int)) := r2
            have CD := Lib.hid (CK.out W1.drew hx01.drew)
            go_upto_region 47 with fail
            (try rw [hW1])
            clear hW1 c0 c1 c2 CK
            go_region_held3 (fun w' => w'.cell? ⟨wr.heap.size, 0, none⟩ = some (.int .i64 P0) ∧ w'.cell? ⟨wr.heap.size, 1, none⟩ = some (.slice rA rn rc) ∧ w'.cell? ⟨gC, j, none⟩ = some (.int .i64 (rn : Int)))
              (((try go_split_ands); refine ⟨?_, ?_, ?_⟩ <;> first | assumption | (with_reducible exact d0) | (with_reducible exact d1) | (with_reducible exact d2) | (with_reducible exact s0) | (with_reducible exact s1) | (with_reducible exact s2)))
              ((go_at_call 21; (with_reducible refine CD.out.mono ?_); rintro e6 w6 ⟨rfl, hy6⟩; have hx16 : Ext W1 w6 := ((Ext.refl W1).drew).trans hy6; have s0 := ext_cell hx16 r0; have s1 := ext_cell hx16 r1; have s2 := ext_cell hx16 r2; clear hy6))
            all_goals
              go_wp2_with fail
              go_roundw
              case rel => exact ⟨j + 1, J1.out, by go_num, hx01.trans hx16⟩
              case measure => simp [intOf]; omega
          · obtain ⟨K9, hK9⟩ : ∃ K9, K9 = blk_ext K.out hx9 := ⟨_, rfl⟩
            have b1 := blk_cell K9 1
            have S := Lib.hid (toE_q (sameI_any As Ah m' cs m' ch L L wr HL.out HL.out (by omega) (Hs.out.ext hx9) (Hh.out.ext hx9)))
            rw [show same L L = true from decide_eq_true rfl] at S
            have hxf := h18.trans hx9
            clear hK9
            go_wp2_with fail
            refine S.out.mono ?_
            rintro e w10 ⟨rfl, hy10⟩
            go_wp2_with fail
            go_ret
            exact retTrue (hxf.trans hy10)
end Go.Proofs.Ytemnhnhpaaoccaa
