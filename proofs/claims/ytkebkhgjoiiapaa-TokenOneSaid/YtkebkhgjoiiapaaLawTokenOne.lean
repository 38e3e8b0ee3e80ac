/- TokenOne answers true. -/
import Derived.Test.YtkebkhgjoiiapaaLawTokenDecodes
import Derived.Deep.RegionHeld3
namespace Go.Proofs.Ytkebkhgjoiiapaa
open Go.RowKit

theorem ext_cell {w w' : World} {p : Addr} {v : Value} (h : Ext w w') (hc : w.cell? p = some v) : w'.cell? p = some v := (h.cell (World.block_lt_of_cell? w p hc)).trans hc
theorem ext_back {a b c : World} (h2 : Ext b c) (h1 : Ext a b) : Ext a c := h1.trans h2

theorem wordB_inj {k v v' : Nat} (h : wordB v k = wordB v' k) (hv : v < 256 ^ k) (hv' : v' < 256 ^ k) : v = v' := by
  have := congrArg numB h
  rw [numB_wordB, numB_wordB, Nat.mod_eq_of_lt hv, Nat.mod_eq_of_lt hv'] at this
  exact this
theorem tokB_inj {p p' s s' : Nat} {xs xs' : List Nat} (h : tokB p xs s = tokB p' xs' s') (h2 : s ≤ 4611686018427387903) (h2' : s' ≤ 4611686018427387903) : p = p' ∧ xs = xs' ∧ s = s' := by
  have e : ∀ p s (xs : List Nat), tokB p xs s = 83 :: 71 :: p :: xs.length :: (xs ++ (wordB s 8 ++ wordB (sumT (bodyT p xs s)) 4)) := by intro p s xs; simp [tokB, bodyT]
  rw [e p s xs, e p' s' xs'] at h
  simp only [List.cons.injEq, true_and] at h
  obtain ⟨h1, h3, h4⟩ := h
  obtain ⟨h5, h6⟩ := List.append_inj h4 h3
  obtain ⟨h7, _⟩ := List.append_inj h6 (by rw [wordB_len, wordB_len])
  exact ⟨h1, h5, wordB_inj h7 (Nat.lt_of_le_of_lt h2 (by decide)) (Nat.lt_of_le_of_lt h2' (by decide))⟩
theorem isTok_len {ys : List Nat} (h : IsTok ys) : ∃ k, ys[3]? = some k ∧ ys.length = k + 16 := by
  obtain ⟨p, s, xs, _, _, _, _, _, rfl⟩ := h
  exact ⟨xs.length, rfl, tokB_len p xs s⟩
theorem cut_none (p s j : Nat) (xs : List Nat) (hj : j < (tokB p xs s).length) : ¬ IsTok ((tokB p xs s).take j) := by
  intro h
  obtain ⟨k, h1, h2⟩ := isTok_len h
  rw [tokB_len] at hj
  rw [List.length_take, tokB_len] at h2
  rw [List.getElem?_take] at h1
  split at h1
  · have : (tokB p xs s)[3]? = some xs.length := rfl
    rw [this] at h1
    injection h1 with h1
    omega
  · cases h1
theorem more_none (p s : Nat) (xs ms : List Nat) (hm : ms ≠ []) : ¬ IsTok (tokB p xs s ++ ms) := by
  intro h
  obtain ⟨k, h1, h2⟩ := isTok_len h
  rw [List.length_append, tokB_len] at h2
  have : (tokB p xs s ++ ms)[3]? = some xs.length := rfl
  rw [this] at h1
  injection h1 with h1
  have := List.length_pos_iff.2 hm
  omega
/-- what Encode answers, told alike for right and wrong tokens -/
def EncIs (p s : Int) (xs : List Nat) (n : Nat) (q : Int) (L : List Nat) : Prop :=
  ((q == 0) = false ∧ L = []) ∨ (q = 0 ∧ ∃ P S : Nat, p = (P : Int) ∧ s = (S : Int) ∧ P < 32 ∧ 1 ≤ S ∧ S ≤ 4611686018427387903 ∧ n ≤ 255 ∧ L = tokB P xs S)
theorem retBE_none {q : Int} {w w' : World} {e : Ending} (h : RetE (.tuple #[.slice none 0 0, .int .i64 q]) w e w') : RetBE [] q w e w' :=
  ⟨none, 0, h.1, World.ownsRow_nil _ _ _ _, h.2⟩
theorem enc_cases (p s : Int) (A : Option Addr) (n c : Nat) (xs : List Nat) (hl : xs.length = n) (hb : ∀ x ∈ xs, x < 256) :
    ∃ (q : Int) (L : List Nat), EncIs p s xs n q L ∧ ∀ w, Rd w A (vals .u8 xs) → Calls Try.prog 30 #[tokV p A n c s] w (RetBE L q w) := by
  by_cases h1 : s < 1 ∨ 4611686018427387903 < s ∨ p < 0 ∨ 32 ≤ p
  · exact ⟨1, [], .inl ⟨rfl, rfl⟩, fun w' _ => (tokEncode_arg w' p s A n c h1).mono fun _ _ h => retBE_none h⟩
  · by_cases h2 : 255 < n
    · exact ⟨2, [], .inl ⟨rfl, rfl⟩, fun w' _ => (tokEncode_long w' p s A n c (by omega) (by omega) (by omega) (by omega) h2).mono fun _ _ h => retBE_none h⟩
    · refine ⟨0, tokB p.toNat xs s.toNat, .inr ⟨rfl, p.toNat, s.toNat, by omega, by omega, by omega, by omega, by omega, by omega, rfl⟩, fun w' hr => ?_⟩
      have := tokEncode_ok w' p.toNat s.toNat A n c xs hl hb hr (by omega) (by omega) (by omega) (by omega)
      rwa [show ((p.toNat : Nat) : Int) = p by omega, show ((s.toNat : Nat) : Int) = s by omega] at this

theorem rd_take' {w : World} {A : Option Addr} {ys : List Nat} (h : Rd w A (vals .u8 ys)) (j : Nat) : Rd w A (vals .u8 (ys.take j)) :=
  rd_take (ys := ys.drop j) (by rw [List.take_append_drop]; exact h)

set_option maxHeartbeats 8000000 in
set_option maxRecDepth 100000 in
theorem tokenOne_walk (w : World) (p s : Int) (A : Option Addr) (n c : Nat) (xs : List Nat) (hl : xs.length = n) (hb : ∀ x ∈ xs, x < 256) (hr : Rd w A (vals .u8 xs)) (_hnc : n ≤ c) (_hz : n ≤ 140737488351232)
    (p' s' : Int) (A' : Option Addr) (n' c' : Nat) (xs' : List Nat) (hl' : xs'.length = n') (hb' : ∀ x ∈ xs', x < 256) (hr' : Rd w A' (vals .u8 xs')) (_hnc' : n' ≤ c') (_hz' : n' ≤ 140737488351232)
    (ct : Nat) (hct : ct < 256) (B : Option Addr) (m d : Nat) (ms : List Nat) (hlm : ms.length = m) (hbm : ∀ x ∈ ms, x < 256) (hrm : Rd w B (vals .u8 ms)) (_hmd : m ≤ d) (hzm : m ≤ 140737488351232) :
    Calls Try.prog 9 #[tokV p A n c s, tokV p' A' n' c' s', .int .u8 (ct : Int), .slice B m d] w (RetTrue w) := by
  obtain ⟨q, L, hE, C1⟩ := enc_cases p s A n c xs hl hb
  obtain ⟨q2, L2, hE2, C2⟩ := enc_cases p' s' A' n' c' xs' hl' hb'
  have Hl := Lib.hid hl; have Hb := Lib.hid hb; have Hr := Lib.hid hr
  have Hl' := Lib.hid hl'; have Hb' := Lib.hid hb'; have Hr' := Lib.hid hr'
  have Hlm := Lib.hid hlm; have Hbm := Lib.hid hbm; have Hrm := Lib.hid hrm; clear hl hb hr hl' hb' hr' hlm hbm hrm
  have HC1 := Lib.hid C1; have HC2 := Lib.hid C2; have HE := Lib.hid hE; have HE2 := Lib.hid hE2; clear C1 C2 hE hE2
  obtain ⟨k, Hk⟩ : ∃ k, Hid (L.length = k) := ⟨_, rfl⟩
  obtain ⟨k2, Hk2⟩ : ∃ k, Hid (L2.length = k) := ⟨_, rfl⟩
  go_enter Try.func9, Try.ntmps9
  go_wp2_with fail
  refine (tokAwake _).mono ?_
  rintro e w1 ⟨rfl, hy1⟩
  have hx1 : Ext w w1 := (((Ext.refl w).alloc _).alloc _).trans hy1
  have K0 : Hid (w1.heap[w.heap.size]? = some (.cells #[.int .i64 p, .slice A n c, .int .i64 s] 56 (0, 0))) := blk_ext (blk_past (blk_new w _) _) hy1
  have K1 : Hid (w1.heap[w.heap.size + 1]? = some (.cells #[.int .i64 p', .slice A' n' c', .int .i64 s'] 56 (0, 0))) := blk_ext (by have := blk_new (w.alloc (.cells #[.int .i64 p, .slice A n c, .int .i64 s] 56)) (.cells #[.int .i64 p', .slice A' n' c', .int .i64 s'] 56); rwa [World.size_alloc] at this) hy1
  have a0 := blk_cell K0.out 0; have a1 := blk_cell K0.out 1; have a2 := blk_cell K0.out 2
  go_wp2_with fail
  refine (HC1.out w1 (Hr.out.ext hx1)).mono ?_
  rintro e w2 ⟨A2, c2, rfl, hown2, hy2⟩
  rw [Hk.out] at hown2 ⊢
  have hx2 := hx1.trans hy2
  have R2 := Lib.hid (Rd.of_own hown2)
  have hc2 := own_cap hown2
  have K1' := Lib.hid (blk_ext K1.out hy2)
  have b0 := blk_cell K1'.out 0; have b1 := blk_cell K1'.out 1; have b2 := blk_cell K1'.out 2
  clear a0 a1 a2 hown2
  go_wp2_with fail
  refine (HC2.out w2 (Hr'.out.ext hx2)).mono ?_
  rintro e w3 ⟨A3, c3, rfl, hown3, hy3⟩
  rw [Hk2.out] at hown3 ⊢
  have hx3 := hx2.trans hy3
  have R3 := Lib.hid (Rd.of_own hown3)
  have R2' := Lib.hid (R2.out.ext hy3)
  clear b0 b1 b2 hown3 K1' R2
  rcases HE.out with ⟨hq, hL⟩ | ⟨rfl, P, S, rfl, rfl, hP, hS1, hS2, hn, hL⟩
  · obtain rfl : k = 0 := by rw [← Hk.out, hL]; rfl
    have hq' : (q != 0) = true := by simp [bne, hq]
    clear hL HE
    rcases HE2.out with ⟨hq2, hL2⟩ | ⟨rfl, P', S', rfl, rfl, hP', hS1', hS2', hn', hL2⟩
    · obtain rfl : k2 = 0 := by rw [← Hk2.out, hL2]; rfl
      clear hL2 HE2
      go_wp2_with fail
      go_ret
      exact retTrue hx3
    · clear hL2 HE2
      go_wp2_with fail
      go_ret
      exact retTrue hx3
  · have HL := Lib.hid hL; clear hL HE
    rcases HE2.out with ⟨hq2, hL2⟩ | ⟨rfl, P', S', rfl, rfl, hP', hS1', hS2', hn', hL2⟩
    · obtain rfl : k2 = 0 := by rw [← Hk2.out, hL2]; rfl
      have hq2' : (q2 != 0) = true := by simp [bne, hq2]
      clear hL2 HE2
      go_wp2_with fail
      go_ret
      exact retTrue hx3
    · have HL2 := Lib.hid hL2; clear hL2 HE2
      have hkn : k = n + 16 := by rw [← Hk.out, HL.out, tokB_len, Hl.out]
      have hkn2 : k2 = n' + 16 := by rw [← Hk2.out, HL2.out, tokB_len, Hl'.out]
      have Hkn := Lib.hid hkn; have Hkn2 := Lib.hid hkn2
      have hk271 : k ≤ 271 := by omega
      have hk271' : k2 ≤ 271 := by omega
      have hk16 : 16 ≤ k := by omega
      clear hkn hkn2
      have hLb : ∀ x ∈ L, x < 256 := by rw [HL.out]; exact tokB_lt P S xs (by omega) (by rw [Hl.out]; omega) Hb.out
      have hLb2 : ∀ x ∈ L2, x < 256 := by rw [HL2.out]; exact tokB_lt P' S' xs' (by omega) (by rw [Hl'.out]; omega) Hb'.out
      have HLb := Lib.hid hLb; have HLb2 := Lib.hid hLb2; clear hLb hLb2
      have hdec : same L L2 = decide ((P : Int) = (P' : Int) ∧ xs = xs' ∧ (S : Int) = (S' : Int)) := by
        unfold same
        rw [HL.out, HL2.out]
        congr 1
        apply propext
        constructor
        · intro h
          obtain ⟨h1, h2, h3⟩ := tokB_inj h hS2 hS2'
          exact ⟨by omega, h2, by omega⟩
        · rintro ⟨h1, h2, h3⟩
          obtain rfl : P = P' := by omega
          obtain rfl : S = S' := by omega
          rw [h2]
      have Hdec := Lib.hid hdec; clear hdec
      have K0' := Lib.hid (blk_ext K0.out (hy2.trans hy3)); have K1' := Lib.hid (blk_ext K1.out (hy2.trans hy3))
      have D1 := Lib.hid (fun W (hx : Ext w3 W) => toE_q (same_any A2 A3 k c2 k2 c3 L L2 W Hk.out Hk2.out (by omega) HLb.out HLb2.out (R2'.out.ext hx) (R3.out.ext hx)))
      have D2 := Lib.hid (fun W (hx : Ext w3 W) => tokSame_any W P P' S S' A A' n c n' c' xs xs' Hl.out Hl'.out (by omega) Hb.out Hb'.out (Hr.out.ext (hx3.trans hx)) (Hr'.out.ext (hx3.trans hx)))
      rw [← Hdec.out] at D2
      generalize same L L2 = sm at *
      have hx33 : Ext w3 w3.drew := (Ext.refl w3).drew
      go_upto_region 7 with fail
      go_cut [57] (fun v wd => v = .bool false ∧ Ext w3 wd)
      case first =>
        have a0 := blk_cell K0'.out 0; have a1 := blk_cell K0'.out 1; have a2 := blk_cell K0'.out 2
        have b0 := blk_cell K1'.out 0; have b1 := blk_cell K1'.out 1; have b2 := blk_cell K1'.out 2
        go_region_held3 (fun w' => w'.cell? ⟨w.heap.size, 0, none⟩ = some (.int .i64 P) ∧ w'.cell? ⟨w.heap.size, 1, none⟩ = some (.slice A n c) ∧ w'.cell? ⟨w.heap.size, 2, none⟩ = some (.int .i64 S) ∧
            w'.cell? ⟨w.heap.size + 1, 0, none⟩ = some (.int .i64 P') ∧ w'.cell? ⟨w.heap.size + 1, 1, none⟩ = some (.slice A' n' c') ∧ w'.cell? ⟨w.heap.size + 1, 2, none⟩ = some (.int .i64 S') ∧ Ext w3 w')
          (((try go_split_ands); refine ⟨?_, ?_, ?_, ?_, ?_, ?_, ?_⟩ <;> first
               | exact ext_cell (by assumption) (by assumption)
               | exact ext_back (by assumption) (by assumption)
               | assumption
               | (simp; assumption)))
          (first
            | (go_at_call 23; (try go_split_ands); refine (D1.out _ (by assumption)).mono ?_; rintro e w' ⟨rfl, hext⟩)
            | (go_at_call 33; (try go_split_ands); refine (D2.out _ (by assumption)).mono ?_; rintro e w' ⟨rfl, hext⟩))
        all_goals
          go_wp2_with fail
          go_meet
          exact ⟨rfl, by first | assumption | (go_split_ands; assumption)⟩
      case rest =>
        obtain ⟨rfl, hx4⟩ := hcut
        have hx5 := hx3.trans hx4
        have R5 := Lib.hid (R2'.out.ext hx4)
        have hkne : vals .u8 L ≠ [] := fun e => by
          have h1 := congrArg List.length e
          rw [vals_len, Hk.out] at h1
          simp at h1; omega
        obtain ⟨b, off, rfl, _⟩ := R5.out hkne
        clear hkne D1 D2 hx33 K0' K1' K0 K1
        have hj : ct % k < k := Nat.mod_lt _ (by omega)
        have hsl : ∀ u : World, (Instr.slice 22 (.slice (some ⟨b, off, none⟩) k c2) none (some (.int .i64 ((ct : Int) % (k : Int)))) none).run Try.prog u = .ok (.slice (some ⟨b, off, none⟩) (ct % k) c2) u := fun u => by
          rw [← Int.natCast_emod]
          exact slice_to Try.underlying22 size_u8 (ct % k) (by omega) u
        have E1 := Lib.hid (decode_none wc (some ⟨b, off, none⟩) (ct % k) c2 (L.take (ct % k)) (by rw [List.length_take, Hk.out]; omega) (fun x hx => HLb.out x (List.mem_of_mem_take hx)) (rd_take' R5.out _) (by omega) (by omega) (by rw [HL.out]; exact cut_none P S _ xs (by rw [← HL.out, Hk.out]; exact hj)))
        go_wp2_with fail
        refine E1.out.mono ?_
        rintro e w6 ⟨rfl, hy6⟩
        have hx6 := hx5.trans hy6
        clear hsl E1
        have R6 := Lib.hid (R5.out.ext hy6)
        by_cases hm0 : m = 0
        · have hmB : ((m : Int) == 0) = true := by rw [beq_iff_eq]; omega
          clear hm0
          go_wp2_with fail
          go_ret
          exact retTrue (hx6.alloc _)
        · have hmp : 0 < m := by omega
          have hms : ms ≠ [] := fun e => by have h1 := Hlm.out; rw [e] at h1; simp at h1; omega
          have hmB : ((m : Int) == 0) = false := by rw [beq_eq_false_iff_ne]; omega
          have hLm : (L ++ ms).length = k + m := by rw [List.length_append, Hk.out, Hlm.out]
          have HLm := Lib.hid hLm
          have HLmb := Lib.hid (show ∀ x ∈ L ++ ms, x < 256 from fun x hx => by
            rcases List.mem_append.1 hx with hx | hx
            · exact HLb.out x hx
            · exact Hbm.out x hx)
          have Hno := Lib.hid (show ¬ IsTok (L ++ ms) by rw [HL.out]; exact more_none P S xs ms hms)
          clear hms hLm hm0
          have hy7 : ∀ o : Obj, Ext w6 (w6.alloc o) := fun o => (Ext.refl w6).alloc o
          have Hy7 := Lib.hid hy7; clear hy7
          go_upto_region 14 with fail
          obtain ⟨w7, hw7⟩ : ∃ w7, w6.alloc (.cells #[.int .i64 0, .slice none 0 0, .int .i64 0] 56) = w7 := ⟨_, rfl⟩
          rw [hw7]
          have hy7 : Ext w6 w7 := by rw [← hw7]; exact Hy7.out _
          have hx7 := hx6.trans hy7
          have R7 := Lib.hid (R6.out.ext hy7)
          clear hw7 Hy7
          go_wp2_with (first
            | (at_builtin; refine app_u8 _ rfl (.tmp 75) (.tmp 76) rfl w7.heap.size rfl (own0 w7) rfl Hk.out (R7.out.alloc _) (by omega) (by simp) ?_; intro A8 c8 w8 hown8 hgrow8 _; have hx8 : Ext w7 w8 := ((Ext.refl w7).alloc _).grown hgrow8 (own_ge (own0 w7)); simp only [Nat.zero_add, List.nil_append] at hown8)
            | (at_builtin; refine app_u8 _ rfl (.tmp 77) (.tmp 78) rfl w7.heap.size rfl hown8 rfl Hlm.out (Hrm.out.ext (hx7.trans hx8)) (by omega) hx8.size ?_; intro A9 c9 w9 hown9 hgrow9 _; have hx9 : Ext w7 w9 := hx8.grown hgrow9 (own_ge hown8); have hc9 := own_cap hown9)
            | fail)
          have R9 := Lib.hid (Rd.of_own hown9)
          clear hown8 hown9 hgrow8 hgrow9
          by_cases hbig : 4096 < k + m
          · refine (decode_long w9 A9 (k + m) c9 hbig).mono ?_
            rintro e w10 ⟨rfl, hy10⟩
            go_wp2_with fail
            go_ret
            exact ⟨ret_bool (by simp; omega), ((hx7.trans hx9).trans hy10).alloc _⟩
          · refine (decode_none w9 A9 (k + m) c9 (L ++ ms) HLm.out HLmb.out R9.out hc9 (by omega) Hno.out).mono ?_
            rintro e w10 ⟨rfl, hy10⟩
            go_wp2_with fail
            go_ret
            exact retTrue (((hx7.trans hx9).trans hy10).alloc _)
end Go.Proofs.Ytkebkhgjoiiapaa
