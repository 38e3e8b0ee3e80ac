/- epoch: end, pin, look, begin, New; Pending, Pinned, Epoch. -/
import Derived.Test.YtlgggeeflomelaaEpA
namespace Go.Proofs.Ytlgggeeflomelaa
open Go.RowKit

set_option maxRecDepth 100000 in
theorem eend_any (e : Int) (n : Nat) (w : World) (hn : (n : Int) ≤ 9223372036854775807) : Calls Try.prog 82 #[.int .i64 e, .int .u64 (n : Int)] w (RetE (.tuple #[.nilFunc, .agg #[.bool true, .int .i64 e, .int .i64 (n : Int), .slice none 0 0]]) w) := by
  go_enter Try.func82, Try.ntmps82
  go_wp2_with fail
  refine bodyPost_ret (results_tmp_row (p := 5) (u := 4) rfl _ _ w.heap.size _ #[.bool true, .int .i64 e, .int .i64 (n : Int), .slice none 0 0] (0, 0) _ rfl (blk_new w _) Try.underlying36 (by rfl) (by kernel_rfl)) rfl ?_
  exact ⟨rfl, (Ext.refl w).alloc _⟩
/-- a function whose boxes are new -/
def PendNew (w : World) (gx who : Nat) (c : ECall) (e : Ending) (w' : World) : Prop :=
  ∃ v, e = .returned v ∧ v ≠ .nilFunc ∧ (∃ f k, v = .func (.func f) #[] k) ∧ Ext w w' ∧ ∀ C F : Nat → Prop, (∀ i, C i → i < w.heap.size) → PendE w' C (fun i => F i ∨ (w.heap.size ≤ i ∧ i < w'.heap.size)) gx who v c
theorem box_new {w w' : World} {C F : Nat → Prop} {b : Nat} {t : TypeId} {v : Value} (h : w'.heap[b]? = some (.cells #[v] t (0, 0))) (hb : w.heap.size ≤ b) (hC : ∀ i, C i → i < w.heap.size) : BoxAt w' C (fun i => F i ∨ (w.heap.size ≤ i ∧ i < w'.heap.size)) (.pointer (some ⟨b, 0, none⟩)) v :=
  ⟨b, t, rfl, h, fun e => by have := hC b e; omega, .inr ⟨hb, blk_lt h⟩⟩
theorem new4 (w : World) (a b c d : Obj) : (((((w.alloc a).alloc b).alloc c).alloc d).heap[w.heap.size]? = some a ∧ ((((w.alloc a).alloc b).alloc c).alloc d).heap[w.heap.size + 1]? = some b) ∧
    ((((w.alloc a).alloc b).alloc c).alloc d).heap[w.heap.size + 2]? = some c ∧ ((((w.alloc a).alloc b).alloc c).alloc d).heap[w.heap.size + 3]? = some d :=
  ⟨⟨blk_past (blk_past (blk_past (blk_new w _) _) _) _, blk_past (blk_past (blk_newk _ _ (by simp)) _) _⟩, blk_past (blk_newk _ _ (by simp)) _, blk_newk _ _ (by simp)⟩
theorem epin_any (w : World) (gx who old e : Nat) :
    Calls Try.prog 81 #[.pointer (some ⟨gx, 0, none⟩), .int .i64 (who : Int), .int .u64 (old : Int), .int .u64 (e : Int)] w (PendNew w gx who (.pinS old e)) := by
  have hmf := hmfC
  go_enter Try.func81, Try.ntmps81
  go_wp2_with fail
  go_ret
  refine ⟨_, rfl, (fun h => by cases h), ⟨_, _, rfl⟩, ((((Ext.refl w).alloc _).alloc _).alloc _).alloc _, fun C F hC => ?_⟩
  obtain ⟨⟨b0, b1⟩, b2, b3⟩ := new4 w (.cells #[.pointer (some ⟨gx, 0, none⟩)] 24 (0, 0)) (.cells #[.int .i64 (who : Int)] 3 (0, 0)) (.cells #[.int .u64 (old : Int)] 122 (0, 0)) (.cells #[.int .u64 (e : Int)] 122 (0, 0))
  exact ⟨_, _, _, _, rfl, box_new b0 (by omega) hC, box_new b1 (by omega) hC, box_new b2 (by omega) hC, box_new b3 (by omega) hC⟩
theorem elook_any (w : World) (gx who i e : Nat) :
    Calls Try.prog 83 #[.pointer (some ⟨gx, 0, none⟩), .int .i64 (who : Int), .int .i64 (i : Int), .int .u64 (e : Int)] w (PendNew w gx who (.look i e)) := by
  have hmf := hmfC
  go_enter Try.func83, Try.ntmps83
  go_wp2_with fail
  go_ret
  refine ⟨_, rfl, (fun h => by cases h), ⟨_, _, rfl⟩, ((((Ext.refl w).alloc _).alloc _).alloc _).alloc _, fun C F hC => ?_⟩
  obtain ⟨⟨b0, b1⟩, b2, b3⟩ := new4 w (.cells #[.pointer (some ⟨gx, 0, none⟩)] 24 (0, 0)) (.cells #[.int .i64 (who : Int)] 3 (0, 0)) (.cells #[.int .i64 (i : Int)] 3 (0, 0)) (.cells #[.int .u64 (e : Int)] 122 (0, 0))
  exact ⟨_, _, _, _, rfl, box_new b2 (by omega) hC, box_new b0 (by omega) hC, box_new b1 (by omega) hC, box_new b3 (by omega) hC⟩
theorem ebegin_any (w : World) (gx who op : Nat) (thing : Int) :
    Calls Try.prog 53 #[.pointer (some ⟨gx, 0, none⟩), .int .i64 (who : Int), .int .u8 (op : Int), .int .i64 thing] w (PendNew w gx who (.begun op thing)) := by
  have hmf := hmfC
  by_cases h2 : op = 2
  · subst h2
    go_enter Try.func53, Try.ntmps53
    go_wp2_with fail
    go_ret
    refine ⟨_, rfl, (fun h => by cases h), ⟨_, _, rfl⟩, ((((Ext.refl w).alloc _).alloc _).alloc _).alloc _, fun C F hC => ?_⟩
    obtain ⟨⟨b0, b1⟩, b2, b3⟩ := new4 w (.cells #[.pointer (some ⟨gx, 0, none⟩)] 24 (0, 0)) (.cells #[.int .i64 (who : Int)] 3 (0, 0)) (.cells #[.int .u8 2] 5 (0, 0)) (.cells #[.int .i64 thing] 3 (0, 0))
    exact .inl ⟨rfl, _, _, rfl, box_new b0 (by omega) hC, box_new b1 (by omega) hC⟩
  · have hd : ((op : Int) == 2) = false := by rw [beq_eq_false_iff_ne]; omega
    go_enter Try.func53, Try.ntmps53
    go_wp2_with fail
    go_ret
    refine ⟨_, rfl, (fun h => by cases h), ⟨_, _, rfl⟩, ((((Ext.refl w).alloc _).alloc _).alloc _).alloc _, fun C F hC => ?_⟩
    obtain ⟨⟨b0, b1⟩, b2, b3⟩ := new4 w (.cells #[.pointer (some ⟨gx, 0, none⟩)] 24 (0, 0)) (.cells #[.int .i64 (who : Int)] 3 (0, 0)) (.cells #[.int .u8 (op : Int)] 5 (0, 0)) (.cells #[.int .i64 thing] 3 (0, 0))
    exact .inr ⟨h2, _, _, _, _, rfl, box_new b0 (by omega) hC, box_new b1 (by omega) hC, box_new b2 (by omega) hC, box_new b3 (by omega) hC⟩
/-- all is new -/
def eInit : ESt := ⟨0, fun _ => 0, fun _ => ⟨.idle, false, []⟩⟩
def EpNew (n : Nat) (w : World) (e : Ending) (w' : World) : Prop :=
  ∃ gx gm C F, e = .returned (.tuple #[.pointer (some ⟨gx, 0, none⟩), .int .i64 0]) ∧ EpAt w' C F gx gm n [] eInit ∧ Ext w w' ∧ ∀ i, F i → w.heap.size ≤ i
theorem info_worker : (Try.prog.info? 120).map (fun i => (i.zero, i.size, i.bytes)) = some (some (.agg #[.nilFunc, .bool false, .slice none 0 0]), 3, 40) := by kernel_rfl
theorem emake (n : Nat) (hn : n ≤ 64) (w : World) : (Instr.makeSlice 111 (.int .i64 (n : Int)) (.int .i64 (n : Int))).run Try.prog w = .ok (.slice (some ⟨w.heap.size, 0, none⟩) n n) (w.alloc (.cells (wcells (List.replicate n ⟨.nilFunc, false, .slice none 0 0⟩)).toArray 120)) := by
  obtain ⟨i, hi, hz, hs, hb⟩ := info_parts info_worker
  have hr := run_make (P := Try.prog) w 111 120 i _ Try.underlying111 hi hz .i64 .i64 n n (by omega) (Int.le_refl _) (by rw [hb]; omega) (by omega)
  refine hr.trans ?_
  have hm : madeCells (Value.cells (.agg #[.nilFunc, .bool false, .slice none 0 0])) ((n : Int).toNat * i.size) = (wcells (List.replicate n ⟨.nilFunc, false, .slice none 0 0⟩)).toArray := by
    rw [hs, Int.toNat_natCast]
    exact made_flat WkV.cells ⟨.nilFunc, false, .slice none 0 0⟩ n 3 rfl (by omega)
  rw [hm, Int.toNat_natCast]
set_option maxHeartbeats 1000000 in
set_option maxRecDepth 100000 in
theorem enew_ok (n : Nat) (w : World) (h1 : 1 ≤ n) (h2 : n ≤ 64) : Calls Try.prog 14 #[.int .i64 (n : Int)] w (EpNew n w) := by
  have hmk := emake n h2
  have a1 : ¬ (n : Int) < 1 := by omega
  have a2 : ¬ (64 : Int) < (n : Int) := by omega
  have hw : IntKind.i64.wrap ((1 : Int) + (n : Int)) = ((1 + n : Nat) : Int) := by rw [IntKind.wrap_i64]; omega
  go_enter Try.func14, Try.ntmps14
  go_wp2_with fail
  refine (mnew_ok (1 + n) w (by omega) (by omega)).mono ?_
  rintro e w1 ⟨gm, Fm, rfl, m1, x1, f1, hg⟩
  have M1 := Lib.hid m1
  clear m1
  go_wp2_with fail
  go_ret2
  have hlt := M1.out.lt
  refine ⟨w1.heap.size + 1, gm, fun i => Fm i ∨ i = w1.heap.size ∨ i = w1.heap.size + 1, fun i => Fm i ∨ i = w1.heap.size ∨ i = w1.heap.size + 1, ?_, ⟨Fm, w1.heap.size, _, List.replicate n ⟨.nilFunc, false, .slice none 0 0⟩, M1.out.ext (((Ext.refl w1).alloc _).alloc _), words_new n, ?_, blk_past (blk_new w1 _) _, by simp, fun i v hv => ?_, fun i j vi vj q hi hj hqi _ => ?_, fun e => ?_, fun e => ?_, by omega, .inr (.inr rfl), .inr (.inl rfl), fun i hi => .inl hi, fun i hi => hi, fun i hi => ?_⟩, (x1.alloc _).alloc _, fun i hi => ?_⟩
  · simp
  · refine (blk_newk _ _ (by simp)).trans ?_
    rfl
  · rw [List.getElem?_replicate] at hv
    split at hv
    · injection hv with hv
      subst hv
      exact ⟨rfl, rfl, ⟨none, 0, rfl, World.ownsRow_nil _ _ _ _⟩, fun q e => by cases e⟩
    · cases hv
  · rw [List.getElem?_replicate] at hi
    split at hi
    · injection hi with hi
      subst hi
      cases hqi
    · cases hi
  · have := hlt _ e; omega
  · have := hlt _ e; omega
  · rw [World.size_alloc, World.size_alloc]
    rcases hi with hi | rfl | rfl
    · have := hlt i hi; omega
    · omega
    · omega
  · have := x1.size
    rcases hi with hi | rfl | rfl
    · exact f1 i hi
    · omega
    · omega
theorem enew_bad (n : Int) (w : World) (h : n < 1 ∨ 64 < n) : Calls Try.prog 14 #[.int .i64 n] w fun e w' => e = .returned (.tuple #[.pointer none, .int .i64 1]) ∧ w = w' := by
  by_cases h0 : n < 1
  · clear h
    go_enter Try.func14, Try.ntmps14
    go_wp2
    go_ret2
    exact ⟨rfl, rfl⟩
  · have h1 : 64 < n := by omega
    clear h
    go_enter Try.func14, Try.ntmps14
    go_wp2
    go_ret2
    exact ⟨rfl, rfl⟩
end Go.Proofs.Ytlgggeeflomelaa
