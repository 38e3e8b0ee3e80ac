/- count: worker, end, New, move. -/
import Derived.Test.YtfjgpeffhbfihaaMchE
import Derived.Laws.EntriesVeiled
namespace Go.Proofs.Ytfjgpeffhbfihaa
open Go.RowKit

theorem cworker_ok (w : World) (a : Int) (h1 : 0 ≤ a) (h2 : a < 64) : Calls Try.prog 55 #[.int .i64 a] w fun e w' => e = .returned (.bool true) ∧ w = w' := by
  go_enter Try.func55, Try.ntmps55
  go_wp2
  go_ret
  exact ⟨rfl, rfl⟩
theorem cworker_bad (w : World) (a : Int) (h : ¬ (0 ≤ a ∧ a < 64)) : Calls Try.prog 55 #[.int .i64 a] w fun e w' => e = .returned (.bool false) ∧ w = w' := by
  by_cases h1 : 0 ≤ a
  · have h2 : ¬ a < 64 := by omega
    clear h
    go_enter Try.func55, Try.ntmps55
    go_wp2
    go_ret
    exact ⟨rfl, rfl⟩
  · clear h
    go_enter Try.func55, Try.ntmps55
    go_wp2
    go_ret
    exact ⟨rfl, rfl⟩
theorem results_tmp_cell {fn : Func} {p u : Tmp} {ty : TypeId} (h : fn.results = #[.tmp u, .cell p ty]) (tmps : Array Value) (P : Program) (w : World) :
    (results fn tmps).run P w = ((asAddr (tmps.getD p undef)).run P w).andThen fun a w => ((loadVar ty a).run P w).andThen fun v w => .ok (.tuple #[tmps.getD u undef, v]) w := by
  simp [results, h, Result.andThen]
theorem results_tmp_row {P : Program} {fn : Func} {p u : Tmp} {ty : TypeId} (h : fn.results = #[.tmp u, .cell p ty]) (tmps : Array Value) (w : World) (g : Nat) (t : TypeId) (cs : Array Value) (fr : Nat × Nat) (d : TypeDesc)
    (hp : tmps.getD p undef = .pointer (some ⟨g, 0, none⟩)) (hg : w.heap[g]? = some (.cells cs t fr))
    (hu : P.underlying ty = some d) (hd : (match d with | .struct _ | .array _ _ => true | _ => false) = true) (hi : (P.info? ty).map (·.size) = some cs.size) :
    (results fn tmps).run P w = .ok (.tuple #[tmps.getD u undef, .agg cs]) w := by
  rw [results_tmp_cell h, hp]
  simp [asAddr, run_loadVar_row w g t ty cs fr d hg hu hd hi, Result.andThen]
set_option maxRecDepth 100000 in
theorem cend_any (e : Int) (n : Nat) (w : World) (hn : (n : Int) ≤ 9223372036854775807) : Calls Try.prog 58 #[.int .i64 e, .int .u64 (n : Int)] w (RetE (.tuple #[.nilFunc, .agg #[.bool true, .int .i64 e, .int .i64 (n : Int)]]) w) := by
  go_enter Try.func58, Try.ntmps58
  go_wp2_with fail
  refine bodyPost_ret (results_tmp_row (p := 5) (u := 4) rfl _ _ w.heap.size _ #[.bool true, .int .i64 e, .int .i64 (n : Int)] (0, 0) _ rfl (blk_new w _) Try.underlying71 (by rfl) (by kernel_rfl)) rfl ?_
  exact ⟨rfl, (Ext.refl w).alloc _⟩
end Go.Proofs.Ytfjgpeffhbfihaa
