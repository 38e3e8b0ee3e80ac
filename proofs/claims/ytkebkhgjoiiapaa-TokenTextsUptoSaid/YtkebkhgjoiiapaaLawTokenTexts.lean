/- TokenTexts answers true. -/
import Derived.Test.YtkebkhgjoiiapaaTokAwake
import Derived.Test.YtkebkhgjoiiapaaUn
namespace Go.Proofs.Ytkebkhgjoiiapaa
open Go.RowKit

theorem unhex_cases (s : ByteArray) :
    (∃ q : Int, (q == 0) = false ∧ (∀ w, Calls Try.prog 35 #[.string s] w (RetE (.tuple #[.slice none 0 0, .int .i64 q]) w)) ∧ (∀ w, Calls Try.prog 36 #[.string s] w (RetE (.tuple #[.slice none 0 0, .int .i64 q]) w))) ∨
    (∃ (qs : List Nat) (m : Nat), qs.length = m ∧ m ≤ 32768 ∧ (∀ x ∈ qs, x < 256) ∧ (⟨((hexN qs).map fun x => x.toUInt8).toArray⟩ : ByteArray) = s ∧
      (∀ w, Calls Try.prog 35 #[.string s] w (RetBE qs 0 w)) ∧ (∀ w, Calls Try.prog 36 #[.string s] w (RetBE qs 0 w))) := by
  by_cases h : 65536 < s.size
  · exact .inl ⟨2, rfl, fun w => unhex_long s w h, fun w => refUnhex_long s w h⟩
  · cases hu : unhexL s.data.toList with
    | none => exact .inl ⟨3, rfl, fun w => (unhex_any s w (by omega)).mono fun e w' hh => hh.1 hu, fun w => (refUnhex_any s w (by omega)).mono fun e w' hh => hh.1 hu⟩
    | some qs =>
      obtain ⟨h1, h2, h3⟩ := hex_unhex _ _ qs (Nat.le_refl _) hu
      have h4 : s.data.toList.length = s.size := rfl
      refine .inr ⟨qs, qs.length, rfl, by omega, h2, ?_, fun w => (unhex_any s w (by omega)).mono fun e w' hh => hh.2 qs hu, fun w => (refUnhex_any s w (by omega)).mono fun e w' hh => hh.2 qs hu⟩
      rw [h1]
theorem text_cases (xs : List Nat) (n : Nat) (hl : xs.length = n) (hb : ∀ x ∈ xs, x < 256) :
    (32768 < n ∧ ∀ w, Calls Try.prog 35 #[.string ⟨((hexN xs).map fun x => x.toUInt8).toArray⟩] w (RetE (.tuple #[.slice none 0 0, .int .i64 2]) w)) ∨
    (n ≤ 32768 ∧ ∀ w, Calls Try.prog 35 #[.string ⟨((hexN xs).map fun x => x.toUInt8).toArray⟩] w (RetBE xs 0 w)) := by
  have hsz : (⟨((hexN xs).map fun x => x.toUInt8).toArray⟩ : ByteArray).size = 2 * n := by
    show (((hexN xs).map fun x => x.toUInt8).toArray).size = _
    rw [List.size_toArray, List.length_map, hexN_len, hl]
  by_cases h : 32768 < n
  · exact .inl ⟨h, fun w => unhex_long _ w (by omega)⟩
  · exact .inr ⟨by omega, fun w => (unhex_any _ w (by omega)).mono fun e w' hh => hh.2 xs (unhex_hex xs hb)⟩

set_option maxHeartbeats 4000000 in
set_option maxRecDepth 100000 in
theorem tokenTexts_walk (w : World) (A : Option Addr) (n c : Nat) (xs : List Nat) (hl : xs.length = n) (hb : ∀ x ∈ xs, x < 256) (hr : Rd w A (vals .u8 xs)) (_hnc : n ≤ c) (hz : n ≤ 1048576) (s : ByteArray) (_hs : s.size ≤ 1048576) :
    Calls Try.prog 10 #[.slice A n c, .string s] w (RetTrue w) := by
  have hcs := unhex_cases s
  have hct := text_cases xs n hl hb
  have HX := Lib.hid (fun w' hr' => hex_any w' A n c xs hl hb hr' (by omega))
  have HR := Lib.hid (fun w' hr' => refHex_any w' A n c xs hl hb hr' (by omega))
  generalize (⟨((hexN xs).map fun x => x.toUInt8).toArray⟩ : ByteArray) = t at *
  have Hl := Lib.hid hl; have Hb := Lib.hid hb; have Hr := Lib.hid hr; clear hl hb hr
  rcases hcs with ⟨q, hq, C1, C2⟩ | ⟨qs, m, hm, hm', hqb, hqs, C1, C2⟩
  · have HC1 := Lib.hid C1; have HC2 := Lib.hid C2; clear C1 C2
    rcases hct with ⟨hn, C3⟩ | ⟨hn, C3⟩
    · have HC3 := Lib.hid C3; clear C3
      go_enter Try.func10, Try.ntmps10
      go_wp2_with fail
      refine (HC1.out w).mono ?_
      rintro e w1 ⟨rfl, hy1⟩
      go_wp2_with fail
      refine (HC2.out w1).mono ?_
      rintro e w2 ⟨rfl, hy2⟩
      have hx2 := hy1.trans hy2
      go_wp2_with fail
      refine (HX.out w2 (Hr.out.ext hx2)).mono ?_
      rintro e w3 ⟨rfl, hy3⟩
      have hx3 := hx2.trans hy3
      go_wp2_with fail
      refine (tokAwake w3).mono ?_
      rintro e w4 ⟨rfl, hy4⟩
      have hx4 := hx3.trans hy4
      go_wp2_with fail
      refine (toE_q (same_any none none 0 0 0 0 [] [] w4 rfl rfl (by omega) (by simp) (by simp) (Rd.nil _ _) (Rd.nil _ _))).mono ?_
      rintro e w5 ⟨rfl, hy5⟩
      rw [show same [] [] = true by decide]
      have hx5 := hx4.trans hy5
      go_wp2_with fail
      refine (HR.out w5 (Hr.out.ext hx5)).mono ?_
      rintro e w6 ⟨rfl, hy6⟩
      have hx6 := hx5.trans hy6
      go_wp2_with fail
      refine (HC3.out w6).mono ?_
      rintro e w7 ⟨rfl, hy7⟩
      go_wp2_with fail
      go_ret
      exact retTrue (hx6.trans hy7)
    · have HC3 := Lib.hid C3; clear C3
      go_enter Try.func10, Try.ntmps10
      go_wp2_with fail
      refine (HC1.out w).mono ?_
      rintro e w1 ⟨rfl, hy1⟩
      go_wp2_with fail
      refine (HC2.out w1).mono ?_
      rintro e w2 ⟨rfl, hy2⟩
      have hx2 := hy1.trans hy2
      go_wp2_with fail
      refine (HX.out w2 (Hr.out.ext hx2)).mono ?_
      rintro e w3 ⟨rfl, hy3⟩
      have hx3 := hx2.trans hy3
      go_wp2_with fail
      refine (tokAwake w3).mono ?_
      rintro e w4 ⟨rfl, hy4⟩
      have hx4 := hx3.trans hy4
      go_wp2_with fail
      refine (toE_q (same_any none none 0 0 0 0 [] [] w4 rfl rfl (by omega) (by simp) (by simp) (Rd.nil _ _) (Rd.nil _ _))).mono ?_
      rintro e w5 ⟨rfl, hy5⟩
      rw [show same [] [] = true by decide]
      have hx5 := hx4.trans hy5
      go_wp2_with fail
      refine (HR.out w5 (Hr.out.ext hx5)).mono ?_
      rintro e w6 ⟨rfl, hy6⟩
      have hx6 := hx5.trans hy6
      go_wp2_with fail
      refine (HC3.out w6).mono ?_
      rintro e w7 ⟨A7, c7, rfl, hown7, hy7⟩
      rw [Hl.out] at hown7 ⊢
      have hx7 := hx6.trans hy7
      have C4 := Lib.hid (same_any A7 A n c7 n c xs xs w7 Hl.out Hl.out (by omega) Hb.out Hb.out (Rd.of_own hown7) (Hr.out.ext hx7))
      clear hown7
      go_wp2_with fail
      refine (toE_q C4.out).mono ?_
      rintro e w8 ⟨rfl, hy8⟩
      rw [show same xs xs = true from decide_eq_true rfl]
      go_wp2_with fail
      go_ret
      exact retTrue (hx7.trans hy8)
  · have HC1 := Lib.hid C1; have HC2 := Lib.hid C2; have Hm := Lib.hid hm; have Hqb := Lib.hid hqb; have Hqs := Lib.hid hqs; clear C1 C2 hm hqb hqs
    have HQ := Lib.hid (fun w' B d hr' => hex_any w' B m d qs Hm.out Hqb.out hr' (by omega))
    rw [Hqs.out] at HQ
    rcases hct with ⟨hn, C3⟩ | ⟨hn, C3⟩
    · have HC3 := Lib.hid C3; clear C3
      go_enter Try.func10, Try.ntmps10
      go_wp2_with fail
      refine (HC1.out w).mono ?_
      rintro e w1 ⟨A1, c1, rfl, hown1, hy1⟩
      rw [Hm.out] at hown1 ⊢
      have R1 := Lib.hid (Rd.of_own hown1); clear hown1
      go_wp2_with fail
      refine (HC2.out w1).mono ?_
      rintro e w2 ⟨A2, c2, rfl, hown2, hy2⟩
      rw [Hm.out] at hown2 ⊢
      have R2 := Lib.hid (Rd.of_own hown2); clear hown2
      have hx2 := hy1.trans hy2
      go_wp2_with fail
      refine (HX.out w2 (Hr.out.ext hx2)).mono ?_
      rintro e w3 ⟨rfl, hy3⟩
      have hx3 := hx2.trans hy3
      go_wp2_with fail
      refine (tokAwake w3).mono ?_
      rintro e w4 ⟨rfl, hy4⟩
      have hx4 := hx3.trans hy4
      go_wp2_with fail
      refine (toE_q (same_any A1 A2 m c1 m c2 qs qs w4 Hm.out Hm.out (by omega) Hqb.out Hqb.out (R1.out.ext ((hy2.trans hy3).trans hy4)) (R2.out.ext (hy3.trans hy4)))).mono ?_
      rintro e w5 ⟨rfl, hy5⟩
      rw [show same qs qs = true from decide_eq_true rfl]
      have hx5 := hx4.trans hy5
      go_wp2_with fail
      refine (HR.out w5 (Hr.out.ext hx5)).mono ?_
      rintro e w6 ⟨rfl, hy6⟩
      have hx6 := hx5.trans hy6
      go_wp2_with fail
      refine (HQ.out w6 A1 c1 (R1.out.ext ((((hy2.trans hy3).trans hy4).trans hy5).trans hy6))).mono ?_
      rintro e w7 ⟨rfl, hy7⟩
      have hx7 := hx6.trans hy7
      go_wp2_with fail
      refine (HC3.out w7).mono ?_
      rintro e w8 ⟨rfl, hy8⟩
      go_wp2_with fail
      go_ret
      exact retTrue (hx7.trans hy8)
    · have HC3 := Lib.hid C3; clear C3
      go_enter Try.func10, Try.ntmps10
      go_wp2_with fail
      refine (HC1.out w).mono ?_
      rintro e w1 ⟨A1, c1, rfl, hown1, hy1⟩
      rw [Hm.out] at hown1 ⊢
      have R1 := Lib.hid (Rd.of_own hown1); clear hown1
      go_wp2_with fail
      refine (HC2.out w1).mono ?_
      rintro e w2 ⟨A2, c2, rfl, hown2, hy2⟩
      rw [Hm.out] at hown2 ⊢
      have R2 := Lib.hid (Rd.of_own hown2); clear hown2
      have hx2 := hy1.trans hy2
      go_wp2_with fail
      refine (HX.out w2 (Hr.out.ext hx2)).mono ?_
      rintro e w3 ⟨rfl, hy3⟩
      have hx3 := hx2.trans hy3
      go_wp2_with fail
      refine (tokAwake w3).mono ?_
      rintro e w4 ⟨rfl, hy4⟩
      have hx4 := hx3.trans hy4
      go_wp2_with fail
      refine (toE_q (same_any A1 A2 m c1 m c2 qs qs w4 Hm.out Hm.out (by omega) Hqb.out Hqb.out (R1.out.ext ((hy2.trans hy3).trans hy4)) (R2.out.ext (hy3.trans hy4)))).mono ?_
      rintro e w5 ⟨rfl, hy5⟩
      rw [show same qs qs = true from decide_eq_true rfl]
      have hx5 := hx4.trans hy5
      go_wp2_with fail
      refine (HR.out w5 (Hr.out.ext hx5)).mono ?_
      rintro e w6 ⟨rfl, hy6⟩
      have hx6 := hx5.trans hy6
      go_wp2_with fail
      refine (HQ.out w6 A1 c1 (R1.out.ext ((((hy2.trans hy3).trans hy4).trans hy5).trans hy6))).mono ?_
      rintro e w7 ⟨rfl, hy7⟩
      have hx7 := hx6.trans hy7
      go_wp2_with fail
      refine (HC3.out w7).mono ?_
      rintro e w8 ⟨A7, c7, rfl, hown7, hy8⟩
      rw [Hl.out] at hown7 ⊢
      have hx8 := hx7.trans hy8
      have C4 := Lib.hid (same_any A7 A n c7 n c xs xs w8 Hl.out Hl.out (by omega) Hb.out Hb.out (Rd.of_own hown7) (Hr.out.ext hx8))
      clear hown7
      go_wp2_with fail
      refine (toE_q C4.out).mono ?_
      rintro e w9 ⟨rfl, hy9⟩
      rw [show same xs xs = true from decide_eq_true rfl]
      go_wp2_with fail
      go_ret
      exact retTrue (hx8.trans hy9)
end Go.Proofs.Ytkebkhgjoiiapaa
