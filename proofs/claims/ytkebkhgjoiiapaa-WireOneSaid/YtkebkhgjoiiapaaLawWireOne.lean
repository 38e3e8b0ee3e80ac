/- WireOne answers true. -/
import Derived.Test.YtkebkhgjoiiapaaWireAwake
import Derived.Test.YtkebkhgjoiiapaaWireC
import Derived.Test.YtkebkhgjoiiapaaCall4
import Derived.Test.YtkebkhgjoiiapaaDocRead
import Derived.Test.YtkebkhgjoiiapaaTokS
import Derived.Deep.RegionHeld3
namespace Go.Proofs.Ytkebkhgjoiiapaa
open Go.RowKit

theorem reqB_pos (op p N : Nat) (xs : List Nat) : 1 ≤ (reqB op p xs N).length := by
  unfold reqB
  split
  · simp
  · split <;> simp
/-- a right request with bytes behind it is none -/
theorem more_no {op p N : Nat} {xs ms L : List Nat} (h : Begins L op p xs N []) (hms : ms ≠ []) : ¬ IsReq (L ++ ms) := by
  intro hI
  obtain ⟨op', p', xs', N', hB⟩ := isReq_inv hI
  by_cases h3 : op = 3
  · subst h3
    have e : L = 3 :: tokB p xs N := by have := h.2.1; rw [List.append_nil, reqB_3] at this; exact this
    rw [e, List.cons_append] at hB
    obtain ⟨rfl, _, _, _, h⟩ := begins_inv hB
    rcases h with ⟨h, _⟩ | ⟨h, _⟩ | ⟨_, _, k⟩ | ⟨h, _⟩
    · omega
    · omega
    · exact more_none p N xs ms hms k
    · omega
  · have hB' : Begins (L ++ ms) op p xs N ms := ⟨h.1, by rw [h.2.1, List.append_nil], fun e => absurd e h3⟩
    obtain ⟨_, _, _, _, e⟩ := begins_one hB' hB
    exact hms e
/-- a right request that is cut off is none -/
theorem cut_no {op p N j : Nat} {xs L : List Nat} (h : Begins L op p xs N []) (hj : j < L.length) : ¬ IsReq (L.take j) := by
  intro hI
  obtain ⟨op', p', xs', N', hB⟩ := isReq_inv hI
  have hL : L = L.take j ++ L.drop j := (List.take_append_drop j L).symm
  have hd : L.drop j ≠ [] := fun e => by have := congrArg List.length e; rw [List.length_drop] at this; simp at this; omega
  have eB : L.take j = reqB op' p' xs' N' := by have := hB.2.1; rw [List.append_nil] at this; exact this
  by_cases h3 : op' = 3
  · subst h3
    rw [reqB_3] at eB
    rw [eB, List.cons_append] at hL
    have h' := h
    rw [hL] at h'
    obtain ⟨rfl, _, _, _, hh⟩ := begins_inv h'
    rcases hh with ⟨hh, _⟩ | ⟨hh, _⟩ | ⟨_, hz, _⟩ | ⟨hh, _⟩
    · omega
    · omega
    · obtain ⟨hN, _, _⟩ := hB
      obtain ⟨⟨_, _, k3, _, k5⟩, hxb, _, _⟩ := hN
      refine more_none p' N' xs' (L.drop j) hd ?_
      rw [hz]
      obtain ⟨⟨⟨_, _, g3, _, g5⟩, gxb, _, _⟩, _, _⟩ := h
      exact ⟨p, N, xs, (g3 (by omega)).1, (g5 rfl).1, (g5 rfl).2, (g3 (by omega)).2, gxb, rfl⟩
    · omega
  · have hB' : Begins L op' p' xs' N' (L.drop j) := ⟨hB.1, by rw [← eB]; exact hL, fun e => absurd e h3⟩
    obtain ⟨_, _, _, _, e⟩ := begins_one h hB'
    exact hd e.symm

set_option maxHeartbeats 8000000 in
set_option maxRecDepth 100000 in
theorem wireOne_walk (w : World) (o : Nat) (ho : o < 256) (p N : Int) (A : Option Addr) (n c : Nat) (xs : List Nat) (hl : xs.length = n) (hb : ∀ x ∈ xs, x < 256) (hr : Rd w A (vals .u8 xs)) (_hnc : n ≤ c) (_hz : n ≤ 140737488351232)
    (o' : Nat) (ho' : o' < 256) (p' N' : Int) (A' : Option Addr) (n' c' : Nat) (xs' : List Nat) (hl' : xs'.length = n') (hb' : ∀ x ∈ xs', x < 256) (hr' : Rd w A' (vals .u8 xs')) (_hnc' : n' ≤ c') (_hz' : n' ≤ 140737488351232)
    (ct : Nat) (hct : ct < 256) (B : Option Addr) (m d : Nat) (ms : List Nat) (hlm : ms.length = m) (hbm : ∀ x ∈ ms, x < 256) (hrm : Rd w B (vals .u8 ms)) (_hmd : m ≤ d) (hzm : m ≤ 140737488351232) :
    Calls Try.prog 14 #[callV (o : Int) p A n c N, callV (o' : Int) p' A' n' c' N', .int .u8 (ct : Int), .slice B m d] w (RetTrue w) := by
  obtain ⟨q, L, hE, C1', _⟩ := req_cases o ho p N n xs hl hb
  have C1 := fun w hr => C1' A c w hr
  clear C1'
  obtain ⟨q2, L2, hE2, C2', _⟩ := req_cases o' ho' p' N' n' xs' hl' hb'
  have C2 := fun w hr => C2' A' c' w hr
  clear C2'
  have Hl := Lib.hid hl; have Hb := Lib.hid hb; have Hr := Lib.hid hr
  have Hl' := Lib.hid hl'; have Hb' := Lib.hid hb'; have Hr' := Lib.hid hr'
  have Hlm := Lib.hid hlm; have Hbm := Lib.hid hbm; have Hrm := Lib.hid hrm; clear hl hb hr hl' hb' hr' hlm hbm hrm
  have HC1 := Lib.hid C1; have HC2 := Lib.hid C2; have HE := Lib.hid hE; have HE2 := Lib.hid hE2; clear C1 C2 hE hE2
  obtain ⟨k, Hk⟩ : ∃ k, Hid (L.length = k) := ⟨_, rfl⟩
  obtain ⟨k2, Hk2⟩ : ∃ k, Hid (L2.length = k) := ⟨_, rfl⟩
  go_enter Try.func14, Try.ntmps14
  go_wp2_with fail
  refine (wireAwake _).mono ?_
  rintro e w1 ⟨rfl, hy1⟩
  have hx1 : Ext w w1 := (((Ext.refl w).alloc _).alloc _).trans hy1
  have K0 : Hid (w1.heap[w.heap.size]? = some (.cells #[.int .u8 (o : Int), .int .i64 p, .slice A n c, .int .i64 N] 71 (0, 0))) := blk_ext (blk_past (blk_new w _) _) hy1
  have K1 : Hid (w1.heap[w.heap.size + 1]? = some (.cells #[.int .u8 (o' : Int), .int .i64 p', .slice A' n' c', .int .i64 N'] 71 (0, 0))) := blk_ext (by have := blk_new (w.alloc (.cells #[.int .u8 (o : Int), .int .i64 p, .slice A n c, .int .i64 N] 71)) (.cells #[.int .u8 (o' : Int), .int .i64 p', .slice A' n' c', .int .i64 N'] 71); rwa [World.size_alloc] at this) hy1
  have a0 := blk_cell K0.out 0; have a1 := blk_cell K0.out 1; have a2 := blk_cell K0.out 2; have a3 := blk_cell K0.out 3
  go_wp2_with fail
  refine (HC1.out w1 (Hr.out.ext hx1)).mono ?_
  rintro e w2 ⟨A2, c2, rfl, hown2, hy2⟩
  rw [Hk.out] at hown2 ⊢
  have hx2 := hx1.trans hy2
  have R2 := Lib.hid (Rd.of_own hown2)
  have hc2 := own_cap hown2
  have K1' := Lib.hid (blk_ext K1.out hy2)
  have b0 := blk_cell K1'.out 0; have b1 := blk_cell K1'.out 1; have b2 := blk_cell K1'.out 2; have b3 := blk_cell K1'.out 3
  clear a0 a1 a2 a3 hown2
  go_wp2_with fail
  refine (HC2.out w2 (Hr'.out.ext hx2)).mono ?_
  rintro e w3 ⟨A3, c3, rfl, hown3, hy3⟩
  rw [Hk2.out] at hown3 ⊢
  have hx3 := hx2.trans hy3
  have R3 := Lib.hid (Rd.of_own hown3)
  have R2' := Lib.hid (R2.out.ext hy3)
  clear b0 b1 b2 b3 hown3 K1' R2
  rcases HE.out with ⟨hq, hL, _⟩ | ⟨rfl, P, S, hp, hN, hR, hL⟩
  · obtain rfl : k = 0 := by rw [← Hk.out, hL]; rfl
    have hq' : (q != 0) = true := by simp [bne, hq]
    clear hL
    rcases HE2.out with ⟨hq2, hL2, _⟩ | ⟨rfl, P', S', hp', hN', hR', hL2⟩
    · obtain rfl : k2 = 0 := by rw [← Hk2.out, hL2]; rfl
      clear hL2 HE2
      go_wp2_with fail
      go_ret
      exact retTrue hx3
    · clear hL2 HE2
      go_wp2_with fail
      go_ret
      exact retTrue hx3
  · have HL := Lib.hid hL; clear hL
    rcases HE2.out with ⟨hq2, hL2, _⟩ | ⟨rfl, P', S', hp', hN', hR', hL2⟩
    · obtain rfl : k2 = 0 := by rw [← Hk2.out, hL2]; rfl
      have hq2' : (q2 != 0) = true := by simp [bne, hq2]
      clear hL2 HE2
      go_wp2_with fail
      go_ret
      exact retTrue hx3
    · have HL2 := Lib.hid hL2; clear hL2 HE2
      obtain ⟨pa, xa, Na, hNa, hLa, na1, na2, na3, na4⟩ := norm_of hR Hb.out
      obtain ⟨pb, xb, Nb, hNb, hLb, nb1, nb2, nb3, nb4⟩ := norm_of hR' Hb'.out
      have hBa : Begins L o pa xa Na [] := ⟨hNa, by rw [HL.out, hLa, List.append_nil], fun _ => rfl⟩
      have hBb : Begins L2 o' pb xb Nb [] := ⟨hNb, by rw [HL2.out, hLb, List.append_nil], fun _ => rfl⟩
      obtain ⟨Aa, na, ca, hla, hra, hUa⟩ := used_cases o p N A n c xs Hl.out pa xa Na na1 (fun h => ⟨by rw [hp (by omega), (na2 h).1], (na2 h).2⟩) na3 (fun h h' => by rw [hN (by have := hR.1; omega), na4 (by have := hR.1; omega)])
      obtain ⟨Ab, nb, cb, hlb, hrb, hUb⟩ := used_cases o' p' N' A' n' c' xs' Hl'.out pb xb Nb nb1 (fun h => ⟨by rw [hp' (by omega), (nb2 h).1], (nb2 h).2⟩) nb3 (fun h h' => by rw [hN' (by have := hR'.1; omega), nb4 (by have := hR'.1; omega)])
      have hk1000 : k ≤ 1000 := by rw [← Hk.out, HL.out, hLa]; exact reqB_len (norm_len hNa)
      have hk1000' : k2 ≤ 1000 := by rw [← Hk2.out, HL2.out, hLb]; exact reqB_len (norm_len hNb)
      have hk1 : 1 ≤ k := by rw [← Hk.out, HL.out]; exact reqB_pos _ _ _ _
      have hna : na ≤ 255 := by rw [← hla]; exact norm_len hNa
      have HLb := Lib.hid (show ∀ x ∈ L, x < 256 by rw [HL.out]; exact reqB_lt hR Hb.out)
      have HLb2 := Lib.hid (show ∀ x ∈ L2, x < 256 by rw [HL2.out]; exact reqB_lt hR' Hb'.out)
      have hdec : same L L2 = decide ((o : Int) = (o' : Int) ∧ (pa : Int) = (pb : Int) ∧ xa = xb ∧ (Na : Int) = (Nb : Int)) := by
        unfold same
        congr 1
        apply propext
        constructor
        · intro h
          have hBb' := hBb
          rw [← h] at hBb'
          obtain ⟨h1, h2, h3, h4, _⟩ := begins_one hBa hBb'
          exact ⟨by omega, by omega, h3, by omega⟩
        · rintro ⟨h1, h2, h3, h4⟩
          have h1' : o = o' := by omega
          have h2' : pa = pb := by omega
          have h4' : Na = Nb := by omega
          rw [hBa.2.1, hBb.2.1, h1', h2', h3, h4']
      have Hdec := Lib.hid hdec; have HBa := Lib.hid hBa; have Hla := Lib.hid hla; have Hlb := Lib.hid hlb; have Hra := Lib.hid hra; have Hrb := Lib.hid hrb; have HUa := Lib.hid hUa; have HUb := Lib.hid hUb
      have Hxa := Lib.hid hNa.2.1; have Hxb := Lib.hid hNb.2.1
      clear hdec hBa hBb hla hlb hra hrb hUa hUb hNa hNb hLa hLb na1 na2 na3 na4 nb1 nb2 nb3 nb4 hp hN hR hp' hN' hR' HE
      have K0' := Lib.hid (blk_ext K0.out (hy2.trans hy3)); have K1' := Lib.hid (blk_ext K1.out (hy2.trans hy3))
      have D1 := Lib.hid (fun W (hx : Ext w3 W) => toE_q (same_any A2 A3 k c2 k2 c3 L L2 W Hk.out Hk2.out (by omega) HLb.out HLb2.out (R2'.out.ext hx) (R3.out.ext hx)))
      have D2 := Lib.hid (fun W (hx : Ext w3 W) => callSame_any W (o : Int) (o' : Int) (pa : Int) (pb : Int) (Na : Int) (Nb : Int) Aa Ab na ca nb cb xa xb Hla.out Hlb.out (by omega) Hxa.out Hxb.out (Hra.out _ (Hr.out.ext (hx3.trans hx))) (Hrb.out _ (Hr'.out.ext (hx3.trans hx))))
      rw [← Hdec.out] at D2
      generalize same L L2 = sm at *
      have hx33 : Ext w3 w3.drew := (Ext.refl w3).drew
      go_upto_region 7 with fail
      go_cut [59] (fun v wd => v = .bool false ∧ Ext w3 wd)
      case first =>
        have a0 := blk_cell K0'.out 0; have a1 := blk_cell K0'.out 1; have a2 := blk_cell K0'.out 2; have a3 := blk_cell K0'.out 3
        have b0 := blk_cell K1'.out 0; have b1 := blk_cell K1'.out 1; have b2 := blk_cell K1'.out 2; have b3 := blk_cell K1'.out 3
        go_region_held3 (fun w' => w'.cell? ⟨w.heap.size, 0, none⟩ = some (.int .u8 (o : Int)) ∧ w'.cell? ⟨w.heap.size, 1, none⟩ = some (.int .i64 p) ∧ w'.cell? ⟨w.heap.size, 2, none⟩ = some (.slice A n c) ∧ w'.cell? ⟨w.heap.size, 3, none⟩ = some (.int .i64 N) ∧
            w'.cell? ⟨w.heap.size + 1, 0, none⟩ = some (.int .u8 (o' : Int)) ∧ w'.cell? ⟨w.heap.size + 1, 1, none⟩ = some (.int .i64 p') ∧ w'.cell? ⟨w.heap.size + 1, 2, none⟩ = some (.slice A' n' c') ∧ w'.cell? ⟨w.heap.size + 1, 3, none⟩ = some (.int .i64 N') ∧ Ext w3 w')
          (((try go_split_ands); refine ⟨?_, ?_, ?_, ?_, ?_, ?_, ?_, ?_, ?_⟩ <;> first
               | exact ext_cell (by assumption) (by assumption)
               | exact ext_back (by assumption) (by assumption)
               | assumption
               | (simp; assumption)))
          (first
            | (go_at_call 23; (try go_split_ands); refine (D1.out _ (by assumption)).mono ?_; rintro e w' ⟨rfl, hext⟩)
            | (go_at_call 44; (try go_split_ands); (with_reducible refine (HUa.out _).mono ?_); rintro e w' ⟨rfl, hext⟩)
            | (go_at_call 44; (try go_split_ands); (with_reducible refine (HUb.out _).mono ?_); rintro e w' ⟨rfl, hext⟩)
            | (go_at_call 43; (try go_split_ands); refine (D2.out _ (by assumption)).mono ?_; rintro e w' ⟨rfl, hext⟩))
        all_goals
          go_wp2_with fail
          go_meet
          exact ⟨rfl, by first | assumption | (go_split_ands; assumption)⟩
      case rest =>
        obtain ⟨rfl, hx4⟩ := hcut
        have hx5 := hx3.trans hx4
        have R5 := Lib.hid (R2'.out.ext hx4)
        have hkne : vals .u8 L ≠ [] := fun e => by
          have h1 := congrArg List.length e
          rw [vals_len, Hk.out] at h1
          simp at h1; omega
        obtain ⟨b, off, rfl, _⟩ := R5.out hkne
        clear hkne D1 D2 hx33 K0' K1' K0 K1
        have hj : ct % k < k := Nat.mod_lt _ (by omega)
        have hsl : ∀ u : World, (Instr.slice 22 (.slice (some ⟨b, off, none⟩) k c2) none (some (.int .i64 ((ct : Int) % (k : Int)))) none).run Try.prog u = .ok (.slice (some ⟨b, off, none⟩) (ct % k) c2) u := fun u => by
          rw [← Int.natCast_emod]
          exact slice_to Try.underlying22 size_u8 (ct % k) (by omega) u
        have E1 := Lib.hid (readReq_none wc (some ⟨b, off, none⟩) (ct % k) c2 (L.take (ct % k)) (by rw [List.length_take, Hk.out]; omega) (by omega) (by omega) (fun x hx => HLb.out x (List.mem_of_mem_take hx)) (rd_take' R5.out _) (cut_no HBa.out (by rw [Hk.out]; exact hj)))
        go_wp2_with fail
        refine E1.out.mono ?_
        rintro e w6 ⟨rfl, hy6⟩
        have hx6 := hx5.trans hy6
        clear hsl E1
        have R6 := Lib.hid (R5.out.ext hy6)
        by_cases hm0 : m = 0
        · have hmB : ((m : Int) == 0) = true := by rw [beq_iff_eq]; omega
          clear hm0
          go_wp2_with fail
          go_ret
          exact retTrue (hx6.alloc _)
        · have hmp : 0 < m := by omega
          have hms : ms ≠ [] := fun e => by have h1 := Hlm.out; rw [e] at h1; simp at h1; omega
          have hmB : ((m : Int) == 0) = false := by rw [beq_eq_false_iff_ne]; omega
          have hLm : (L ++ ms).length = k + m := by rw [List.length_append, Hk.out, Hlm.out]
          have HLm := Lib.hid hLm
          have HLmb := Lib.hid (show ∀ x ∈ L ++ ms, x < 256 from fun x hx => by
            rcases List.mem_append.1 hx with hx | hx
            · exact HLb.out x hx
            · exact Hbm.out x hx)
          have Hno := Lib.hid (more_no HBa.out hms)
          clear hms hLm hm0
          by_cases hbig : 4096 < k + m
          · have hbB : decide ((k : Int) + (m : Int) > 4096) = true := by simp; omega
            have hbB2 : decide ((4096 : Int) < (k : Int) + (m : Int)) = true := by simp; omega
            clear hbig
            go_wp2_with fail
            go_ret
            exact retTrue (hx6.alloc _)
          have hbig' : k + m ≤ 4096 := by omega
          clear hbig
          have hy7 : ∀ o : Obj, Ext w6 (w6.alloc o) := fun o => (Ext.refl w6).alloc o
          have Hy7 := Lib.hid hy7; clear hy7
          go_upto_region 14 with fail
          obtain ⟨w7, hw7⟩ : ∃ w7, w6.alloc (.cells #[.int .u8 0, .int .i64 0, .slice none 0 0, .int .i64 0] 71) = w7 := ⟨_, rfl⟩
          rw [hw7]
          have hy7 : Ext w6 w7 := by rw [← hw7]; exact Hy7.out _
          have hx7 := hx6.trans hy7
          have R7 := Lib.hid (R6.out.ext hy7)
          clear hw7 Hy7
          go_wp2_with (first
            | (at_builtin; refine app_u8 _ rfl (.tmp 85) (.tmp 86) rfl w7.heap.size rfl (own0 w7) rfl Hk.out (R7.out.alloc _) (by omega) (by simp) ?_; intro A8 c8 w8 hown8 hgrow8 _; have hx8 : Ext w7 w8 := ((Ext.refl w7).alloc _).grown hgrow8 (own_ge (own0 w7)); simp only [Nat.zero_add, List.nil_append] at hown8)
            | (at_builtin; refine app_u8 _ rfl (.tmp 87) (.tmp 88) rfl w7.heap.size rfl hown8 rfl Hlm.out (Hrm.out.ext (hx7.trans hx8)) (by omega) hx8.size ?_; intro A9 c9 w9 hown9 hgrow9 _; have hx9 : Ext w7 w9 := hx8.grown hgrow9 (own_ge hown8); have hc9 := own_cap hown9)
            | fail)
          have R9 := Lib.hid (Rd.of_own hown9)
          clear hown8 hown9 hgrow8 hgrow9
          refine (readReq_none w9 A9 (k + m) c9 (L ++ ms) HLm.out (by omega) hc9 HLmb.out R9.out Hno.out).mono ?_
          rintro e w10 ⟨rfl, hy10⟩
          go_wp2_with fail
          go_ret
          exact retTrue (((hx7.trans hx9).trans hy10).alloc _)
end Go.Proofs.Ytkebkhgjoiiapaa
