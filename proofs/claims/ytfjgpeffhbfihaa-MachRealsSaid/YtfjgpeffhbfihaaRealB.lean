/- mach.Real: Load, Swap, Clock, Tick. -/
import Derived.Test.YtfjgpeffhbfihaaRealA
import Derived.LoopN
namespace Go.Proofs.Ytfjgpeffhbfihaa
open Go.RowKit

theorem realload_ok (w : World) (F : Nat → Prop) (g : Nat) (ws : List Nat) (clk : Int) (who : Int) (i x : Nat) (h : RealAt w F g ws clk) (h1 : 0 ≤ who) (h2 : who < 64) (hx : ws[i]? = some x) :
    Calls Try.prog 47 #[.pointer (some ⟨g, 0, none⟩), .int .i64 who, .int .i64 (i : Int)] w fun e w' => e = .returned (.tuple #[.int .u64 (x : Int), .int .i64 0]) ∧ w = w' := by
  obtain ⟨gw, b0, bx, _, _⟩ := h.word hx
  have hi : i < ws.length := (List.getElem?_eq_some_iff.1 hx).1
  have H := Lib.hid h
  clear h hx
  go_enter Try.func47, Try.ntmps47
  go_wp2_with fail
  refine (realsize_any w F g ws clk H.out).mono ?_
  rintro e w1 ⟨rfl, rfl⟩
  go_wp2_with fail
  refine (worker_ok w who i ws.length h1 h2 (by omega) (by omega)).mono ?_
  rintro e w1 ⟨rfl, rfl⟩
  go_wp2_with fail
  refine (u64_load w gw i x bx).mono ?_
  rintro e w1 ⟨rfl, rfl⟩
  go_wp2_with fail
  go_ret2
  exact ⟨rfl, rfl⟩
theorem realload_bad (w : World) (p : Option Addr) (n : Int) (who i : Int) (hs : Calls Try.prog 65 #[.pointer p] w fun e w' => e = .returned (.int .i64 n) ∧ w = w') (hb : ¬ (0 ≤ who ∧ who < 64 ∧ 0 ≤ i ∧ i < n)) :
    Calls Try.prog 47 #[.pointer p, .int .i64 who, .int .i64 i] w fun e w' => e = .returned (.tuple #[.int .u64 0, .int .i64 1]) ∧ w = w' := by
  have H := Lib.hid hs; have Hb := Lib.hid hb
  clear hs hb
  go_enter Try.func47, Try.ntmps47
  go_wp2_with fail
  refine H.out.mono ?_
  rintro e w1 ⟨rfl, rfl⟩
  go_wp2_with fail
  refine (worker_bad w who i n Hb.out).mono ?_
  rintro e w1 ⟨rfl, rfl⟩
  go_wp2_with fail
  go_ret2
  exact ⟨rfl, rfl⟩
theorem realswap_hit (w : World) (F : Nat → Prop) (g : Nat) (ws : List Nat) (clk : Int) (who : Int) (i x new : Nat) (h : RealAt w F g ws clk) (h1 : 0 ≤ who) (h2 : who < 64) (hx : ws[i]? = some x) :
    Calls Try.prog 49 #[.pointer (some ⟨g, 0, none⟩), .int .i64 who, .int .i64 (i : Int), .int .u64 (x : Int), .int .u64 (new : Int)] w fun e w' => e = .returned (.tuple #[.bool true, .int .i64 0]) ∧ RealGo w F g (ws.set i new) clk w' := by
  obtain ⟨gw, b0, bx, bf, hst⟩ := h.word hx
  have hi : i < ws.length := (List.getElem?_eq_some_iff.1 hx).1
  have HST := Lib.hid (hst new)
  have H := Lib.hid h
  clear h hx hst
  go_enter Try.func49, Try.ntmps49
  go_wp2_with fail
  refine (realsize_any w F g ws clk H.out).mono ?_
  rintro e w1 ⟨rfl, rfl⟩
  go_wp2_with fail
  refine (worker_ok w who i ws.length h1 h2 (by omega) (by omega)).mono ?_
  rintro e w1 ⟨rfl, rfl⟩
  go_wp2_with fail
  refine (u64_hit w gw i x new bx bf).mono ?_
  rintro e w1 ⟨rfl, rfl⟩
  go_wp2_with fail
  go_ret2
  exact ⟨rfl, HST.out⟩
theorem realswap_miss (w : World) (F : Nat → Prop) (g : Nat) (ws : List Nat) (clk : Int) (who : Int) (i x old new : Nat) (h : RealAt w F g ws clk) (h1 : 0 ≤ who) (h2 : who < 64) (hx : ws[i]? = some x) (hne : x ≠ old) :
    Calls Try.prog 49 #[.pointer (some ⟨g, 0, none⟩), .int .i64 who, .int .i64 (i : Int), .int .u64 (old : Int), .int .u64 (new : Int)] w fun e w' => e = .returned (.tuple #[.bool false, .int .i64 0]) ∧ w = w' := by
  obtain ⟨gw, b0, bx, bf, hst⟩ := h.word hx
  have hi : i < ws.length := (List.getElem?_eq_some_iff.1 hx).1
  have H := Lib.hid h
  clear h hx hst
  go_enter Try.func49, Try.ntmps49
  go_wp2_with fail
  refine (realsize_any w F g ws clk H.out).mono ?_
  rintro e w1 ⟨rfl, rfl⟩
  go_wp2_with fail
  refine (worker_ok w who i ws.length h1 h2 (by omega) (by omega)).mono ?_
  rintro e w1 ⟨rfl, rfl⟩
  go_wp2_with fail
  refine (u64_miss w gw i x new old bx bf (by omega)).mono ?_
  rintro e w1 ⟨rfl, rfl⟩
  go_wp2_with fail
  go_ret2
  exact ⟨rfl, rfl⟩
theorem realswap_bad (w : World) (p : Option Addr) (n : Int) (who i old new : Int) (hs : Calls Try.prog 65 #[.pointer p] w fun e w' => e = .returned (.int .i64 n) ∧ w = w') (hb : ¬ (0 ≤ who ∧ who < 64 ∧ 0 ≤ i ∧ i < n)) :
    Calls Try.prog 49 #[.pointer p, .int .i64 who, .int .i64 i, .int .u64 old, .int .u64 new] w fun e w' => e = .returned (.tuple #[.bool false, .int .i64 1]) ∧ w = w' := by
  have H := Lib.hid hs; have Hb := Lib.hid hb
  clear hs hb
  go_enter Try.func49, Try.ntmps49
  go_wp2_with fail
  refine H.out.mono ?_
  rintro e w1 ⟨rfl, rfl⟩
  go_wp2_with fail
  refine (worker_bad w who i n Hb.out).mono ?_
  rintro e w1 ⟨rfl, rfl⟩
  go_wp2_with fail
  go_ret2
  exact ⟨rfl, rfl⟩
theorem realclock_ok (w : World) (F : Nat → Prop) (g : Nat) (ws : List Nat) (clk : Int) (who : Int) (h : RealAt w F g ws clk) (h1 : 0 ≤ who) (h2 : who < 64) :
    Calls Try.prog 51 #[.pointer (some ⟨g, 0, none⟩), .int .i64 who] w fun e w' => e = .returned (.tuple #[.int .i64 clk, .int .i64 0]) ∧ w = w' := by
  obtain ⟨b1, _, _⟩ := h.clock
  clear h
  go_enter Try.func51, Try.ntmps51
  go_wp2_with fail
  refine (worker_ok w who 0 1 h1 h2 (by omega) (by omega)).mono ?_
  rintro e w1 ⟨rfl, rfl⟩
  go_wp2_with fail
  refine (i64_load w g 1 clk b1).mono ?_
  rintro e w1 ⟨rfl, rfl⟩
  go_wp2_with fail
  go_ret2
  exact ⟨rfl, rfl⟩
theorem realclock_bad (w : World) (p : Option Addr) (who : Int) (hb : ¬ (0 ≤ who ∧ who < 64)) :
    Calls Try.prog 51 #[.pointer p, .int .i64 who] w fun e w' => e = .returned (.tuple #[.int .i64 0, .int .i64 1]) ∧ w = w' := by
  have Hb := Lib.hid hb
  clear hb
  go_enter Try.func51, Try.ntmps51
  go_wp2_with fail
  refine (worker_bad w who 0 1 (fun h => Hb.out ⟨h.1, h.2.1⟩)).mono ?_
  rintro e w1 ⟨rfl, rfl⟩
  go_wp2_with fail
  go_ret2
  exact ⟨rfl, rfl⟩
theorem realclock_nil (w : World) (who : Int) (h1 : 0 ≤ who) (h2 : who < 64) :
    Calls Try.prog 51 #[.pointer none, .int .i64 who] w fun e w' => e = .returned (.tuple #[.int .i64 0, .int .i64 7]) ∧ w = w' := by
  go_enter Try.func51, Try.ntmps51
  go_wp2_with fail
  refine (worker_ok w who 0 1 h1 h2 (by omega) (by omega)).mono ?_
  rintro e w1 ⟨rfl, rfl⟩
  go_wp2_with fail
  go_ret2
  exact ⟨rfl, rfl⟩
theorem realtick_ok (w : World) (F : Nat → Prop) (g : Nat) (ws : List Nat) (clk T : Nat) (n : Nat) (h : RealAt w F g ws clk) (h2 : (n : Int) ≤ 4611686018427387903) (c2 : (clk : Int) ≤ 4611686018427387903) (hT : min ((clk : Int) + (n : Int)) 4611686018427387903 = (T : Int)) :
    Calls Try.prog 53 #[.pointer (some ⟨g, 0, none⟩), .int .i64 (n : Int)] w fun e w' => e = .returned (.tuple #[.int .i64 (T : Int), .int .i64 0]) ∧ RealGo w F g ws T w' := by
  obtain ⟨b1, f1, hst⟩ := h.clock
  have HST := Lib.hid (hst (T : Int))
  have AD := Lib.hid (tadd_ok clk n w (by omega) c2 (by omega) h2)
  rw [hT] at AD
  have H := Lib.hid h
  clear h hT hst
  go_enter Try.func53, Try.ntmps53
  go_wp2_with fail
  refine (tform_ok n w (by omega) h2).mono ?_
  rintro e w1 ⟨rfl, rfl⟩
  go_wp2_with fail
  refine wp_loop_rounds 1 ?_
  rw [rounds_succ]
  go_wp2_with fail
  refine (i64_load w g 1 clk b1).mono ?_
  rintro e w1 ⟨rfl, rfl⟩
  go_wp2_with fail
  refine AD.out.mono ?_
  rintro e w1 ⟨rfl, rfl⟩
  go_wp2_with fail
  refine (i64_hit w g 1 clk T b1 f1).mono ?_
  rintro e w1 ⟨rfl, rfl⟩
  go_wp2_with fail
  go_ret2
  exact ⟨rfl, HST.out⟩
theorem realtick_bad (w : World) (p : Option Addr) (n : Int) (hb : n < 0 ∨ 4611686018427387903 < n) :
    Calls Try.prog 53 #[.pointer p, .int .i64 n] w fun e w' => e = .returned (.tuple #[.int .i64 0, .int .i64 1]) ∧ w = w' := by
  have Hb := Lib.hid hb
  clear hb
  go_enter Try.func53, Try.ntmps53
  go_wp2_with fail
  refine (tform_bad n w Hb.out).mono ?_
  rintro e w1 ⟨rfl, rfl⟩
  go_wp2_with fail
  go_ret2
  exact ⟨rfl, rfl⟩
theorem realtick_nil (w : World) (n : Int) (h1 : 0 ≤ n) (h2 : n ≤ 4611686018427387903) :
    Calls Try.prog 53 #[.pointer none, .int .i64 n] w fun e w' => e = .returned (.tuple #[.int .i64 0, .int .i64 7]) ∧ w = w' := by
  go_enter Try.func53, Try.ntmps53
  go_wp2_with fail
  refine (tform_ok n w h1 h2).mono ?_
  rintro e w1 ⟨rfl, rfl⟩
  go_wp2_with fail
  go_ret2
  exact ⟨rfl, rfl⟩
end Go.Proofs.Ytfjgpeffhbfihaa
