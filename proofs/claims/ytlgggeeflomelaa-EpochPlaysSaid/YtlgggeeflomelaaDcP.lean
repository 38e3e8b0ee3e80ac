/- spigotlaw13.same: two results that are alike. -/
import Derived.Test.YtlgggeeflomelaaDcO
namespace Go.Proofs.Ytlgggeeflomelaa
open Go.RowKit

theorem same_self (xs : List Int) : same xs xs = true := by unfold same; exact decide_eq_true rfl
set_option maxHeartbeats 1000000 in
set_option maxRecDepth 100000 in
theorem esame_ok (w : World) (done : Bool) (er nu : Int) (A A' : Option Addr) (m q q' : Nat) (xs : List Int) (hl : xs.length = m) (hm : m ≤ 9223372036854775807) (hA : Rd w A (ivals xs)) (hA' : Rd w A' (ivals xs)) :
    Calls Try.prog 26 #[.agg #[.bool done, .int .i64 er, .int .i64 nu, .slice A m q], .agg #[.bool done, .int .i64 er, .int .i64 nu, .slice A' m q']] w (RetE (.bool true) w) := by
  have SM := Lib.hid (fun (u : World) (x : Ext w u) => sameN_any A A' m q m q' xs xs u hl hl (by omega) (hA.ext x) (hA'.ext x))
  rw [same_self] at SM
  have hq : (done == done) = true := by cases done <;> rfl
  clear hA hA' hl
  go_enter Try.func26, Try.ntmps26
  go_wp2_with fail
  refine (SM.out _ (((Ext.refl w).alloc _).alloc _)).mono ?_
  rintro e w1 ⟨rfl, q9, hw1⟩
  have hx : Ext w w1 := by rw [hw1]; exact (((Ext.refl w).alloc _).alloc _).drewN q9
  clear hw1
  go_wp2_with fail
  go_ret
  exact ⟨rfl, hx⟩
end Go.Proofs.Ytlgggeeflomelaa
