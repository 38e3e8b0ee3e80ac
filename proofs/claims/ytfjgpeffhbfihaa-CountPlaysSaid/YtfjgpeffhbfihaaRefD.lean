/- spigotref11: DocNew, DocLoad, DocSwap, DocClock, DocTick. -/
import Derived.Test.YtfjgpeffhbfihaaRefC
import Derived.Deep.OwnRows
namespace Go.Proofs.Ytfjgpeffhbfihaa
open Go.RowKit

theorem rmade_u64 (n : Nat) (t : TypeId) : (.cells (madeCells #[.int .u64 0] n) t : Obj) = .cells (vals .u64 (List.replicate n 0)).toArray t (0, 0) := by
  congr 1
  apply Array.ext'
  rw [toList_madeCells_one]
  simp [vals]
def RefNew (n : Nat) (w : World) (e : Ending) (w' : World) : Prop :=
  ∃ g F, e = .returned (.tuple #[.pointer (some ⟨g, 0, none⟩), .int .i64 0]) ∧ RefAt w' F g (List.replicate n 0) 0 [] ∧ Ext w w' ∧ (∀ i, F i → w.heap.size ≤ i) ∧ w.heap.size ≤ g
theorem rnew_ok (n : Nat) (w : World) (h1 : 1 ≤ n) (h2 : n ≤ 4096) : Calls Try.prog 22 #[.int .i64 (n : Int)] w (RefNew n w) := by
  have a1 : ¬ (n : Int) < 1 := by omega
  have a2 : ¬ 4096 < (n : Int) := by omega
  have hmk := run_make_row' (P := Try.prog) 44 28 (.int .u64 0) 8 Try.underlying44 info_u64 rfl .i64 .i64 n (by omega) (by omega)
  go_enter Try.func22, Try.ntmps22
  go_wp2_with fail
  go_ret2
  refine ⟨w.heap.size + 1, fun i => i = w.heap.size ∨ i = w.heap.size + 1, rfl, ⟨w.heap.size, none, 0, ?_, ?_, World.ownsRow_nil _ _ _ _, by omega, .inr rfl, .inl rfl, fun q e => (by cases e), fun i hi => ?_⟩, ?_, fun i hi => by omega, by omega⟩
  · rw [List.length_replicate]
    exact blk_newk _ _ (by simp)
  · exact (blk_past (blk_new w _) _).trans (by rw [rmade_u64])
  · simp; omega
  · exact ((Ext.refl w).alloc _).alloc _
theorem rnew_bad (n : Int) (w : World) (h : n < 1 ∨ 4096 < n) : Calls Try.prog 22 #[.int .i64 n] w fun e w' => e = .returned (.tuple #[.pointer none, .int .i64 1]) ∧ w = w' := by
  by_cases h0 : n < 1
  · go_enter Try.func22, Try.ntmps22
    go_wp2
    go_ret2
    exact ⟨rfl, rfl⟩
  · have h1 : 4096 < n := by omega
    go_enter Try.func22, Try.ntmps22
    go_wp2
    go_ret2
    exact ⟨rfl, rfl⟩
theorem rworker_ok (w : World) (a : Int) (h1 : 0 ≤ a) (h2 : a < 64) : Calls Try.prog 59 #[.int .i64 a] w fun e w' => e = .returned (.bool true) ∧ w = w' := by
  have := rworker_any w a
  rwa [decide_eq_true (⟨h1, h2⟩ : 0 ≤ a ∧ a < 64)] at this
theorem rworker_bad (w : World) (a : Int) (h : ¬ (0 ≤ a ∧ a < 64)) : Calls Try.prog 59 #[.int .i64 a] w fun e w' => e = .returned (.bool false) ∧ w = w' := by
  have := rworker_any w a
  rwa [decide_eq_false h] at this
theorem rword_ok (w : World) (F : Nat → Prop) (g : Nat) (ws : List Nat) (clk : Int) (L : List AccE) (a : Int) (h : RefAt w F g ws clk L) (h1 : 0 ≤ a) (h2 : a < (ws.length : Int)) : Calls Try.prog 67 #[.pointer (some ⟨g, 0, none⟩), .int .i64 a] w fun e w' => e = .returned (.bool true) ∧ w = w' := by
  have := rword_at w F g ws clk L a h
  rwa [decide_eq_true (⟨h1, h2⟩ : 0 ≤ a ∧ a < (ws.length : Int))] at this
theorem rword_bad (w : World) (F : Nat → Prop) (g : Nat) (ws : List Nat) (clk : Int) (L : List AccE) (a : Int) (h : RefAt w F g ws clk L) (hb : ¬ (0 ≤ a ∧ a < (ws.length : Int))) : Calls Try.prog 67 #[.pointer (some ⟨g, 0, none⟩), .int .i64 a] w fun e w' => e = .returned (.bool false) ∧ w = w' := by
  have := rword_at w F g ws clk L a h
  rwa [decide_eq_false hb] at this
theorem dload_ok (w : World) (F : Nat → Prop) (g : Nat) (ws : List Nat) (clk : Int) (L : List AccE) (who : Int) (i x : Nat) (h : RefAt w F g ws clk L) (hL : L.length ≤ 1000000) (h1 : 0 ≤ who) (h2 : who < 64) (hx : ws[i]? = some x) :
    Calls Try.prog 48 #[.pointer (some ⟨g, 0, none⟩), .int .i64 who, .int .i64 (i : Int)] w fun e w' => e = .returned (.tuple #[.int .u64 (x : Int), .int .i64 0]) ∧ RefGo w F g ws clk (L ++ [⟨who, 1, i, x, 0, true⟩]) w' := by
  have hi : i < ws.length := (List.getElem?_eq_some_iff.1 hx).1
  have H := Lib.hid h; have Hx := Lib.hid hx
  clear h hx
  go_enter Try.func48, Try.ntmps48
  go_wp2_with fail
  refine (rworker_ok w who h1 h2).mono ?_
  rintro e w1 ⟨rfl, rfl⟩
  go_wp2_with fail
  refine (rword_ok w F g ws clk L i H.out (by omega) (by omega)).mono ?_
  rintro e w1 ⟨rfl, rfl⟩
  go_wp2_with fail
  refine (rload_any w F g ws clk L who i x H.out hL Hx.out).mono ?_
  rintro e w1 ⟨rfl, hm⟩
  go_wp2_with fail
  go_ret2
  exact ⟨rfl, hm⟩
theorem dload_bad1 (w : World) (p : Option Addr) (who i : Int) (hb : ¬ (0 ≤ who ∧ who < 64)) :
    Calls Try.prog 48 #[.pointer p, .int .i64 who, .int .i64 i] w fun e w' => e = .returned (.tuple #[.int .u64 0, .int .i64 1]) ∧ w = w' := by
  have Hb := Lib.hid hb
  clear hb
  go_enter Try.func48, Try.ntmps48
  go_wp2_with fail
  refine (rworker_bad w who Hb.out).mono ?_
  rintro e w1 ⟨rfl, rfl⟩
  go_wp2_with fail
  go_ret2
  exact ⟨rfl, rfl⟩
theorem dload_bad2 (w : World) (p : Option Addr) (who i : Int) (h1 : 0 ≤ who) (h2 : who < 64) (hb : Calls Try.prog 67 #[.pointer p, .int .i64 i] w fun e w' => e = .returned (.bool false) ∧ w = w') :
    Calls Try.prog 48 #[.pointer p, .int .i64 who, .int .i64 i] w fun e w' => e = .returned (.tuple #[.int .u64 0, .int .i64 1]) ∧ w = w' := by
  have Hb := Lib.hid hb
  clear hb
  go_enter Try.func48, Try.ntmps48
  go_wp2_with fail
  refine (rworker_ok w who h1 h2).mono ?_
  rintro e w1 ⟨rfl, rfl⟩
  go_wp2_with fail
  refine Hb.out.mono ?_
  rintro e w1 ⟨rfl, rfl⟩
  go_wp2_with fail
  go_ret2
  exact ⟨rfl, rfl⟩
theorem dswap_ok (w : World) (F : Nat → Prop) (g : Nat) (ws ws' : List Nat) (clk : Int) (L L' : List AccE) (b : Bool) (who : Int) (i old new : Nat) (h : RefAt w F g ws clk L) (h1 : 0 ≤ who) (h2 : who < 64) (hi : i < ws.length)
    (hs : Calls Try.prog 70 #[.pointer (some ⟨g, 0, none⟩), .int .i64 who, .int .i64 (i : Int), .int .u64 (old : Int), .int .u64 (new : Int)] w fun e w' => e = .returned (.bool b) ∧ RefGo w F g ws' clk L' w') :
    Calls Try.prog 50 #[.pointer (some ⟨g, 0, none⟩), .int .i64 who, .int .i64 (i : Int), .int .u64 (old : Int), .int .u64 (new : Int)] w fun e w' => e = .returned (.tuple #[.bool b, .int .i64 0]) ∧ RefGo w F g ws' clk L' w' := by
  have H := Lib.hid h; have HS := Lib.hid hs
  clear h hs
  go_enter Try.func50, Try.ntmps50
  go_wp2_with fail
  refine (rworker_ok w who h1 h2).mono ?_
  rintro e w1 ⟨rfl, rfl⟩
  go_wp2_with fail
  refine (rword_ok w F g ws clk L i H.out (by omega) (by omega)).mono ?_
  rintro e w1 ⟨rfl, rfl⟩
  go_wp2_with fail
  refine HS.out.mono ?_
  rintro e w1 ⟨rfl, hm⟩
  go_wp2_with fail
  go_ret2
  exact ⟨rfl, hm⟩
theorem dswap_bad1 (w : World) (p : Option Addr) (who i old new : Int) (hb : ¬ (0 ≤ who ∧ who < 64)) :
    Calls Try.prog 50 #[.pointer p, .int .i64 who, .int .i64 i, .int .u64 old, .int .u64 new] w fun e w' => e = .returned (.tuple #[.bool false, .int .i64 1]) ∧ w = w' := by
  have Hb := Lib.hid hb
  clear hb
  go_enter Try.func50, Try.ntmps50
  go_wp2_with fail
  refine (rworker_bad w who Hb.out).mono ?_
  rintro e w1 ⟨rfl, rfl⟩
  go_wp2_with fail
  go_ret2
  exact ⟨rfl, rfl⟩
theorem dswap_bad2 (w : World) (p : Option Addr) (who i old new : Int) (h1 : 0 ≤ who) (h2 : who < 64) (hb : Calls Try.prog 67 #[.pointer p, .int .i64 i] w fun e w' => e = .returned (.bool false) ∧ w = w') :
    Calls Try.prog 50 #[.pointer p, .int .i64 who, .int .i64 i, .int .u64 old, .int .u64 new] w fun e w' => e = .returned (.tuple #[.bool false, .int .i64 1]) ∧ w = w' := by
  have Hb := Lib.hid hb
  clear hb
  go_enter Try.func50, Try.ntmps50
  go_wp2_with fail
  refine (rworker_ok w who h1 h2).mono ?_
  rintro e w1 ⟨rfl, rfl⟩
  go_wp2_with fail
  refine Hb.out.mono ?_
  rintro e w1 ⟨rfl, rfl⟩
  go_wp2_with fail
  go_ret2
  exact ⟨rfl, rfl⟩
theorem dclock_ok (w : World) (F : Nat → Prop) (g : Nat) (ws : List Nat) (clk : Nat) (L : List AccE) (who : Int) (h : RefAt w F g ws clk L) (hL : L.length ≤ 1000000) (h1 : 0 ≤ who) (h2 : who < 64) (hc : (clk : Int) ≤ 9223372036854775807) :
    Calls Try.prog 52 #[.pointer (some ⟨g, 0, none⟩), .int .i64 who] w fun e w' => e = .returned (.tuple #[.int .i64 (clk : Int), .int .i64 0]) ∧ RefGo w F g ws clk (L ++ [⟨who, 3, 0, clk, 0, true⟩]) w' := by
  have H := Lib.hid h
  clear h
  go_enter Try.func52, Try.ntmps52
  go_wp2_with fail
  refine (rworker_ok w who h1 h2).mono ?_
  rintro e w1 ⟨rfl, rfl⟩
  go_wp2_with fail
  refine (rclock_any w F g ws clk L who H.out hL hc).mono ?_
  rintro e w1 ⟨rfl, hm⟩
  go_wp2_with fail
  go_ret2
  exact ⟨rfl, hm⟩
theorem dclock_bad (w : World) (p : Option Addr) (who : Int) (hb : ¬ (0 ≤ who ∧ who < 64)) :
    Calls Try.prog 52 #[.pointer p, .int .i64 who] w fun e w' => e = .returned (.tuple #[.int .i64 0, .int .i64 1]) ∧ w = w' := by
  have Hb := Lib.hid hb
  clear hb
  go_enter Try.func52, Try.ntmps52
  go_wp2_with fail
  refine (rworker_bad w who Hb.out).mono ?_
  rintro e w1 ⟨rfl, rfl⟩
  go_wp2_with fail
  go_ret2
  exact ⟨rfl, rfl⟩
theorem dclock_nil (w : World) (who : Int) (h1 : 0 ≤ who) (h2 : who < 64) :
    Calls Try.prog 52 #[.pointer none, .int .i64 who] w fun e w' => e = .returned (.tuple #[.int .i64 0, .int .i64 7]) ∧ w = w' := by
  go_enter Try.func52, Try.ntmps52
  go_wp2_with fail
  refine (rworker_ok w who h1 h2).mono ?_
  rintro e w1 ⟨rfl, rfl⟩
  go_wp2_with fail
  go_ret2
  exact ⟨rfl, rfl⟩
theorem rform_ok (N : Int) (w : World) (h : 0 ≤ N) (h' : N ≤ 4611686018427387903) : Calls Try.prog 37 #[.int .i64 N] w fun e w' => e = .returned (.bool true) ∧ w = w' := by
  go_enter Try.func37, Try.ntmps37
  go_wp2
  go_ret
  exact ⟨rfl, rfl⟩
theorem rform_bad (N : Int) (w : World) (h : N < 0 ∨ 4611686018427387903 < N) : Calls Try.prog 37 #[.int .i64 N] w fun e w' => e = .returned (.bool false) ∧ w = w' := by
  by_cases h0 : N < 0
  · go_enter Try.func37, Try.ntmps37
    go_wp2
    go_ret
    exact ⟨rfl, rfl⟩
  · have h1 : ¬ N ≤ 4611686018427387903 := by omega
    go_enter Try.func37, Try.ntmps37
    go_wp2
    go_ret
    exact ⟨rfl, rfl⟩
theorem dtick_ok (w : World) (F : Nat → Prop) (g : Nat) (ws : List Nat) (clk T : Nat) (L : List AccE) (n : Nat) (h : RefAt w F g ws clk L) (h2 : (n : Int) ≤ 4611686018427387903) (c2 : (clk : Int) ≤ 4611686018427387903) (hT : min ((clk : Int) + (n : Int)) 4611686018427387903 = (T : Int)) :
    Calls Try.prog 54 #[.pointer (some ⟨g, 0, none⟩), .int .i64 (n : Int)] w fun e w' => e = .returned (.tuple #[.int .i64 (T : Int), .int .i64 0]) ∧ RefGo w F g ws T L w' := by
  obtain ⟨b1, _, _⟩ := h.clock
  have AD := Lib.hid (radd_any clk n w c2 h2)
  rw [hT] at AD
  have H := Lib.hid h
  clear h hT
  go_enter Try.func54, Try.ntmps54
  go_wp2_with fail
  refine (rform_ok n w (by omega) h2).mono ?_
  rintro e w1 ⟨rfl, rfl⟩
  go_wp2_with fail
  refine AD.out.mono ?_
  rintro e w1 ⟨rfl, x1⟩
  obtain ⟨c1, f1, hst⟩ := (H.out.ext x1).clock
  obtain ⟨m2, g2⟩ := hst (T : Int)
  have HM := Lib.hid (RefGo.back ((GB.of_ext F x1).trans g2 (fun i hi => .inl hi)) (fun i hi => .inl hi) (RefGo.refl m2))
  clear m2 g2 hst b1
  go_wp2_with fail
  go_ret2
  exact ⟨rfl, HM.out⟩
theorem dtick_bad (w : World) (p : Option Addr) (n : Int) (hb : n < 0 ∨ 4611686018427387903 < n) :
    Calls Try.prog 54 #[.pointer p, .int .i64 n] w fun e w' => e = .returned (.tuple #[.int .i64 0, .int .i64 1]) ∧ w = w' := by
  have Hb := Lib.hid hb
  clear hb
  go_enter Try.func54, Try.ntmps54
  go_wp2_with fail
  refine (rform_bad n w Hb.out).mono ?_
  rintro e w1 ⟨rfl, rfl⟩
  go_wp2_with fail
  go_ret2
  exact ⟨rfl, rfl⟩
theorem dtick_nil (w : World) (n : Int) (h1 : 0 ≤ n) (h2 : n ≤ 4611686018427387903) :
    Calls Try.prog 54 #[.pointer none, .int .i64 n] w fun e w' => e = .returned (.tuple #[.int .i64 0, .int .i64 7]) ∧ w = w' := by
  go_enter Try.func54, Try.ntmps54
  go_wp2_with fail
  refine (rform_ok n w h1 h2).mono ?_
  rintro e w1 ⟨rfl, rfl⟩
  go_wp2_with fail
  go_ret2
  exact ⟨rfl, rfl⟩
end Go.Proofs.Ytfjgpeffhbfihaa
