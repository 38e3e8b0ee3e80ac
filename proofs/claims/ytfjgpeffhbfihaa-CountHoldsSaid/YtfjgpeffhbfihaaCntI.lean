/- count: Pending, Value, Steps; what a step does. -/
import Derived.Test.YtfjgpeffhbfihaaCntH
namespace Go.Proofs.Ytfjgpeffhbfihaa
open Go.RowKit

theorem cpend_nil (w : World) (who : Int) : Calls Try.prog 32 #[.pointer none, .int .i64 who] w fun e w' => e = .returned (.bool false) ∧ w = w' := by
  go_enter Try.func32, Try.ntmps32
  go_wp2
  go_ret
  exact ⟨rfl, rfl⟩
theorem cpend_bad (w : World) (gc : Nat) (who : Int) (hb : ¬ (0 ≤ who ∧ who < 64)) : Calls Try.prog 32 #[.pointer (some ⟨gc, 0, none⟩), .int .i64 who] w fun e w' => e = .returned (.bool false) ∧ w = w' := by
  have HB := Lib.hid hb
  clear hb
  go_enter Try.func32, Try.ntmps32
  go_wp2_with fail
  refine (cworker_bad _ who HB.out).mono ?_
  rintro e w1 ⟨rfl, rfl⟩
  go_wp2_with fail
  go_ret
  exact ⟨rfl, rfl⟩
set_option maxRecDepth 100000 in
theorem cpend_idle (w : World) (F : Nat → Prop) (gc gm lim val who : Nat) (L : List AccE) (S : Nat → CallS) (h : CntAt w F gc gm lim val L S) (hw : who < 64) (hs : S who = .idle) :
    Calls Try.prog 32 #[.pointer (some ⟨gc, 0, none⟩), .int .i64 (who : Int)] w fun e w' => e = .returned (.bool false) ∧ w = w' := by
  have a3 : (0 : Int) ≤ (who : Int) := by omega
  have a4 : (who : Int) < 64 := by omega
  have hq : ∀ (u : World), (binOp .neq 126 .nilFunc .nilFunc).run Try.prog u = .ok (.bool false) u := fun _ => rfl
  obtain ⟨_, _, ⟨v, cv, pv⟩, _⟩ := h.cells hw
  rw [hs] at pv
  obtain rfl : v = .nilFunc := pv
  clear h hs
  go_enter Try.func32, Try.ntmps32
  go_wp2_with fail
  refine (cworker_ok _ who a3 a4).mono ?_
  rintro e w1 ⟨rfl, rfl⟩
  go_wp2_with fail
  go_ret
  exact ⟨rfl, rfl⟩
set_option maxRecDepth 100000 in
theorem cpend_busy (w : World) (F : Nat → Prop) (gc gm lim val who : Nat) (L : List AccE) (S : Nat → CallS) (h : CntAt w F gc gm lim val L S) (hw : who < 64) (hs : S who ≠ .idle) :
    Calls Try.prog 32 #[.pointer (some ⟨gc, 0, none⟩), .int .i64 (who : Int)] w fun e w' => e = .returned (.bool true) ∧ w = w' := by
  have a3 : (0 : Int) ≤ (who : Int) := by omega
  have a4 : (who : Int) < 64 := by omega
  have hq : ∀ (f : FuncId) (c : Array Value) (u : World), (binOp .neq 126 (.func (.func f) #[] c) .nilFunc).run Try.prog u = .ok (.bool true) u := fun _ _ _ => rfl
  obtain ⟨_, _, ⟨v, cv, pv⟩, _⟩ := h.cells hw
  obtain ⟨f, c, rfl⟩ := pend_func pv hs
  clear h hs pv
  go_enter Try.func32, Try.ntmps32
  go_wp2_with fail
  refine (cworker_ok _ who a3 a4).mono ?_
  rintro e w1 ⟨rfl, rfl⟩
  go_wp2_with fail
  go_ret
  exact ⟨rfl, rfl⟩
theorem cword0 (w : World) (F : Nat → Prop) (g val : Nat) (L : List AccE) (h : MachAt w F g [val] 0 L) : Calls Try.prog 20 #[.pointer (some ⟨g, 0, none⟩), .int .i64 0] w fun e w' => e = .returned (.tuple #[.int .u64 (val : Int), .int .i64 0]) ∧ w = w' := word_ok w F g [val] 0 L 0 val h rfl
theorem cvalue_any (w : World) (F : Nat → Prop) (gc gm lim val : Nat) (L : List AccE) (S : Nat → CallS) (h : CntAt w F gc gm lim val L S) (hv : (val : Int) ≤ 9223372036854775807) :
    Calls Try.prog 34 #[.pointer (some ⟨gc, 0, none⟩)] w fun e w' => e = .returned (.int .i64 (val : Int)) ∧ w = w' := by
  obtain ⟨cm, _, _, _⟩ := h.cells (who := 0) (by omega)
  obtain ⟨Fm, ps, hm, _⟩ := h
  have HM := Lib.hid (cword0 w Fm gm val L hm)
  clear hm
  go_enter Try.func34, Try.ntmps34
  go_wp2_with fail
  refine HM.out.mono ?_
  rintro e w1 ⟨rfl, rfl⟩
  go_wp2_with fail
  go_ret
  exact ⟨rfl, rfl⟩
theorem cvalue_nil (w : World) : Calls Try.prog 34 #[.pointer none] w fun e w' => e = .returned (.int .i64 0) ∧ w = w' := by
  go_enter Try.func34, Try.ntmps34
  go_wp2
  go_ret
  exact ⟨rfl, rfl⟩
theorem csteps_any (w : World) (F : Nat → Prop) (gc gm lim val : Nat) (L : List AccE) (S : Nat → CallS) (h : CntAt w F gc gm lim val L S) :
    Calls Try.prog 35 #[.pointer (some ⟨gc, 0, none⟩)] w fun e w' => e = .returned (.int .i64 (L.length : Int)) ∧ w = w' := by
  obtain ⟨cm, _, _, _⟩ := h.cells (who := 0) (by omega)
  obtain ⟨Fm, ps, hm, _⟩ := h
  have HM := Lib.hid (mcount_any w Fm gm [val] 0 L hm)
  clear hm
  go_enter Try.func35, Try.ntmps35
  go_wp2_with fail
  refine HM.out.mono ?_
  rintro e w1 ⟨rfl, rfl⟩
  go_wp2_with fail
  go_ret
  exact ⟨rfl, rfl⟩
theorem csteps_nil (w : World) : Calls Try.prog 35 #[.pointer none] w fun e w' => e = .returned (.int .i64 0) ∧ w = w' := by
  go_enter Try.func35, Try.ntmps35
  go_wp2
  go_ret
  exact ⟨rfl, rfl⟩
def addW (n b : Nat) : Nat := (n + b) % 18446744073709551616
theorem addW_wrap (n b : Nat) : IntKind.u64.wrap ((n : Int) + (b : Int)) = (addW n b : Int) := by rw [IntKind.wrap_u64]; unfold addW; omega
def stVal (val : Nat) : CallS → Nat
  | .swap n _ _ b => if val = n then addW n b else val
  | _ => val
def stAcc (val who : Nat) : CallS → AccE
  | .swap n _ _ b => ⟨who, 2, 0, n, addW n b, decide (val = n)⟩
  | _ => ⟨who, 1, 0, val, 0, true⟩
def stNext (val : Nat) : CallS → CallS
  | .load stop e b => if val = stop then .idle else .swap val stop e b
  | .swap n stop e b => if val = n then .idle else .load stop e b
  | _ => .idle
def stDone (val : Nat) : CallS → Bool
  | .idle => false
  | .read => true
  | .load stop _ _ => decide (val = stop)
  | .swap n _ _ _ => decide (val = n)
def stErr (val : Nat) : CallS → Int
  | .load stop e _ => if val = stop then e else 0
  | _ => 0
def stNum (val : Nat) : CallS → Int
  | .read => val
  | .swap n _ _ b => if val = n then addW n b else 0
  | _ => 0
theorem cap_more {w u : World} {F : Nat → Prop} {p v : Value} (h : CapAt w F p v) (x : Ext w u) : CapAt u (fun i => F i ∨ i = w.heap.size ∨ i = w.heap.size + 1) p v := by
  obtain ⟨b, t, h1, h2, h3⟩ := h
  have hb : b < w.heap.size := blk_lt h2
  exact ⟨b, t, h1, blk_ext h2 x, fun e => by
    rcases e with e | e | e
    · exact h3 e
    · omega
    · omega⟩
theorem cstep_any (w : World) (F : Nat → Prop) (gc gm lim val who : Nat) (L : List AccE) (S : Nat → CallS) (h : CntAt w F gc gm lim val L S) (hw : who < 64) (hs : S who ≠ .idle) (hL : L.length ≤ 100000) (hv : (val : Int) ≤ 9223372036854775807) (hn : ∀ n st e b, S who = .swap n st e b → val = n → ((addW n b : Nat) : Int) ≤ 9223372036854775807) :
    Calls Try.prog 29 #[.pointer (some ⟨gc, 0, none⟩), .int .i64 (who : Int)] w fun e w' => e = .returned (.tuple #[.agg #[.bool (stDone val (S who)), .int .i64 (stErr val (S who)), .int .i64 (stNum val (S who))], .int .i64 0]) ∧ CntGo w F gc gm lim (stVal val (S who)) (L ++ [stAcc val who (S who)]) (updS S who (stNext val (S who))) w' := by
  have cm := (h.cells hw).1
  obtain ⟨Fm, ps, h1, h2, h3, h4, h5, h6, h7, h8⟩ := h
  obtain ⟨v, hvv⟩ : ∃ v, ps[who]? = some v := ⟨_, List.getElem?_eq_getElem (by omega)⟩
  have pv := h5 who v hvv
  have hlt2 : ∀ u, Ext w u → w.heap.size + 2 ≤ u.heap.size → ∀ i, (F i ∨ i = w.heap.size ∨ i = w.heap.size + 1) → i < u.heap.size := fun u x hu i hi => by
    rcases hi with hi | hi | hi
    · exact Nat.lt_of_lt_of_le (h8 i hi) x.size
    · omega
    · omega
  cases hsw : S who with
  | idle => exact absurd hsw hs
  | read =>
    rw [hsw] at pv
    obtain ⟨p0, p1, rfl, k0, k1⟩ := pv
    exact cstep_run w F gc gm lim who S Fm ps _ _ val _ .idle true 0 val h4 h2 h3 h5 h6 h7 h8 hw hvv (fun u => rfl) fun u x hu =>
      cread_any u _ Fm gc gm who val L p0 p1 (h1.ext x) hL (ext_cell x cm) h4 (fun i hi => .inl (h7 i hi)) (cap_more k0 x) (cap_more k1 x) hw hv
  | load stop er by_ =>
    rw [hsw] at pv
    obtain ⟨p0, p1, p2, p3, p4, rfl, k0, k1, k2, k3, k4⟩ := pv
    exact cstep_run w F gc gm lim who S Fm ps _ _ val _ (if val = stop then .idle else .swap val stop er by_) (decide (val = stop)) (if val = stop then er else 0) 0 h4 h2 h3 h5 h6 h7 h8 hw hvv (fun u => rfl) fun u x hu =>
      cload_any u _ Fm gc gm who val stop by_ er L p0 p1 p2 p3 p4 (h1.ext x) hL (ext_cell x cm) h4 (fun i hi => .inl (h7 i hi)) (hlt2 u x hu) (cap_more k0 x) (cap_more k1 x) (cap_more k2 x) (cap_more k3 x) (cap_more k4 x) hw
  | swap n stop er by_ =>
    rw [hsw] at pv
    obtain ⟨p0, p1, p2, p3, p4, p5, rfl, k0, k1, k2, k3, k4, k5⟩ := pv
    by_cases hvn : val = n
    · subst hvn
      have e1 : stVal val (.swap val stop er by_) = addW val by_ := if_pos rfl
      have e2 : stNext val (.swap val stop er by_) = .idle := if_pos rfl
      have e3 : stNum val (.swap val stop er by_) = (addW val by_ : Int) := if_pos rfl
      have e4 : stDone val (.swap val stop er by_) = true := decide_eq_true rfl
      have e5 : stAcc val who (.swap val stop er by_) = ⟨who, 2, 0, val, addW val by_, true⟩ := by simp [stAcc]
      rw [e1, e2, e3, e4, e5]
      exact cstep_run w F gc gm lim who S Fm ps _ _ (addW val by_) _ .idle true 0 (addW val by_) h4 h2 h3 h5 h6 h7 h8 hw hvv (fun u => rfl) fun u x hu =>
        cswap_hit u _ Fm gc gm who val (addW val by_) stop by_ er L p0 p1 p2 p3 p4 p5 (h1.ext x) hL (ext_cell x cm) h4 (fun i hi => .inl (h7 i hi)) (hlt2 u x hu) (cap_more k0 x) (cap_more k1 x) (cap_more k2 x) (cap_more k3 x) (cap_more k4 x) (cap_more k5 x) hw (addW_wrap val by_) (hn val stop er by_ hsw rfl)
    · have e1 : stVal val (.swap n stop er by_) = val := if_neg hvn
      have e2 : stNext val (.swap n stop er by_) = .load stop er by_ := if_neg hvn
      have e3 : stNum val (.swap n stop er by_) = 0 := if_neg hvn
      have e4 : stDone val (.swap n stop er by_) = false := decide_eq_false hvn
      have e5 : stAcc val who (.swap n stop er by_) = ⟨who, 2, 0, n, addW n by_, false⟩ := by simp [stAcc, hvn]
      rw [e1, e2, e3, e4, e5]
      exact cstep_run w F gc gm lim who S Fm ps _ _ val _ (.load stop er by_) false 0 0 h4 h2 h3 h5 h6 h7 h8 hw hvv (fun u => rfl) fun u x hu =>
        cswap_miss u _ Fm gc gm who val n (addW n by_) stop by_ er L p0 p1 p2 p3 p4 p5 (h1.ext x) hL (ext_cell x cm) h4 (fun i hi => .inl (h7 i hi)) (hlt2 u x hu) (cap_more k0 x) (cap_more k1 x) (cap_more k2 x) (cap_more k3 x) (cap_more k4 x) (cap_more k5 x) hw (addW_wrap n by_) hvn
end Go.Proofs.Ytfjgpeffhbfihaa
