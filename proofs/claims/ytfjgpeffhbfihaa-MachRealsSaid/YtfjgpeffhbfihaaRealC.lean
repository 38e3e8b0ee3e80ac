/- spigotlaw11: a machine of atomic words beside the document's. -/
import Derived.Test.YtfjgpeffhbfihaaRealB
import Derived.Test.YtfjgpeffhbfihaaRefD
import Derived.Test.YtfjgpeffhbfihaaMchF
namespace Go.Proofs.Ytfjgpeffhbfihaa
open Go.RowKit

def BothSt (w0 : World) (pr pd : Option Addr) (k : Nat) (w : World) : Prop :=
  Ext w0 w ∧ ((pr = none ∧ pd = none) ∨ ∃ (g d : Nat) (ws : List Nat) (clk : Nat) (L : List AccE) (F1 F2 : Nat → Prop), pr = some ⟨g, 0, none⟩ ∧ pd = some ⟨d, 0, none⟩ ∧ RealAt w F1 g ws clk ∧ RefAt w F2 d ws clk L ∧ L.length ≤ k ∧
    (clk : Int) ≤ 4611686018427387903 ∧ (∀ i, F1 i → ¬ F2 i) ∧ (∀ i, F1 i → w0.heap.size ≤ i) ∧ ∀ i, F2 i → w0.heap.size ≤ i)
theorem RealAt.lt {w : World} {F : Nat → Prop} {g : Nat} {ws : List Nat} {clk : Int} (h : RealAt w F g ws clk) : ∀ i, F i → i < w.heap.size := by
  obtain ⟨_, _, _, _, _, _, h⟩ := h
  exact h
theorem RefAt.lt {w : World} {F : Nat → Prop} {g : Nat} {ws : List Nat} {clk : Int} {L : List AccE} (h : RefAt w F g ws clk L) : ∀ i, F i → i < w.heap.size := by
  obtain ⟨_, _, _, _, _, _, _, _, _, _, h⟩ := h
  exact h
theorem BothSt.ext {w0 w w' : World} {pr pd : Option Addr} {k : Nat} (h : BothSt w0 pr pd k w) (x : Ext w w') : BothSt w0 pr pd k w' := by
  obtain ⟨h0, h⟩ := h
  refine ⟨h0.trans x, ?_⟩
  rcases h with h | ⟨g, d, ws, clk, L, F1, F2, h1, h2, h3, h4, h5, h6, h7, h8, h9⟩
  · exact .inl h
  · exact .inr ⟨g, d, ws, clk, L, F1, F2, h1, h2, h3.ext x, h4.ext x, h5, h6, h7, h8, h9⟩
theorem BothSt.more {w0 w : World} {pr pd : Option Addr} {k k' : Nat} (h : BothSt w0 pr pd k w) (hk : k ≤ k') : BothSt w0 pr pd k' w := by
  obtain ⟨h0, h⟩ := h
  refine ⟨h0, ?_⟩
  rcases h with h | ⟨g, d, ws, clk, L, F1, F2, h1, h2, h3, h4, h5, h6, h7, h8, h9⟩
  · exact .inl h
  · exact .inr ⟨g, d, ws, clk, L, F1, F2, h1, h2, h3, h4, by omega, h6, h7, h8, h9⟩
/-- behind both: the real one went to w1, the document's to w2 -/
theorem both_of {w0 W w1 w2 : World} {g d k : Nat} {ws' : List Nat} {clk' : Nat} {L' : List AccE} {F1 F2 : Nat → Prop} (x : Ext w0 W) (h1 : RealAt w1 F1 g ws' clk') (g1 : GB W w1 F1) (h2 : RefGo w1 F2 d ws' clk' L' w2) (hL : L'.length ≤ k) (hc : (clk' : Int) ≤ 4611686018427387903)
    (hd : ∀ i, F1 i → ¬ F2 i) (f1 : ∀ i, F1 i → w0.heap.size ≤ i) (f2 : ∀ i, F2 i → w0.heap.size ≤ i) : BothSt w0 (some ⟨g, 0, none⟩) (some ⟨d, 0, none⟩) k w2 := by
  obtain ⟨F2', m2, g2, e2⟩ := h2
  have x1 : Ext w0 w1 := g1.to_ext x f1
  refine ⟨g2.to_ext x1 f2, .inr ⟨g, d, ws', clk', L', F1, F2', rfl, rfl, h1.gb g2 hd, m2, hL, hc, fun i hi hi2 => ?_, f1, fun i hi => ?_⟩⟩
  · rcases e2 i hi2 with e2 | e2
    · exact hd i hi e2
    · have := h1.lt i hi; omega
  · rcases e2 i hi with e2 | e2
    · exact f2 i e2
    · exact Nat.le_trans x1.size e2
/-- two calls, one behind the other, with one answer; what lies from N on is untouched by the first -/
def Pair (f1 f2 : FuncId) (a1 a2 : Array Value) (N : Nat) (v : Value) (Q : World → Prop) (W : World) : Prop :=
  Calls Try.prog f1 a1 W fun e w1 => e = .returned v ∧ GB W w1 (· < N) ∧ Calls Try.prog f2 a2 w1 fun e w2 => e = .returned v ∧ Q w2
theorem pair_same {f1 f2 : FuncId} {a1 a2 : Array Value} {N : Nat} {v : Value} {Q : World → Prop} {W : World} (h1 : Calls Try.prog f1 a1 W fun e w1 => e = .returned v ∧ W = w1) (h2 : Calls Try.prog f2 a2 W fun e w2 => e = .returned v ∧ Q w2) : Pair f1 f2 a1 a2 N v Q W := by
  refine h1.mono ?_
  rintro e w1 ⟨rfl, rfl⟩
  exact ⟨rfl, GB.refl _ _, h2⟩
theorem pair_quiet {f2 : FuncId} {a2 : Array Value} {v : Value} {Q : World → Prop} {W : World} (h2 : Calls Try.prog f2 a2 W fun e w2 => e = .returned v ∧ W = w2) (hq : Q W) : Calls Try.prog f2 a2 W fun e w2 => e = .returned v ∧ Q w2 := by
  refine h2.mono ?_
  rintro e w2 ⟨rfl, rfl⟩
  exact ⟨rfl, hq⟩
theorem pair_load {w0 w W : World} {pr pd : Option Addr} {k : Nat} (h : BothSt w0 pr pd k w) (x : Ext w W) (hk : k ≤ 1000) (who i : Int) :
    ∃ a q : Int, Pair 47 48 #[.pointer pr, .int .i64 who, .int .i64 i] #[.pointer pd, .int .i64 who, .int .i64 i] w.heap.size (.tuple #[.int .u64 a, .int .i64 q]) (BothSt w0 pr pd (k + 1)) W := by
  have hW := (h.ext x).more (show k ≤ k + 1 by omega)
  obtain ⟨h0, h⟩ := h
  rcases h with ⟨rfl, rfl⟩ | ⟨g, d, ws, clk, L, F1, F2, rfl, rfl, h3, h4, h5, h6, h7, h8, h9⟩
  · refine ⟨0, 1, pair_same (realload_bad W none 0 who i (realsize_nil W) (by omega)) ?_⟩
    by_cases hw : 0 ≤ who ∧ who < 64
    · exact pair_quiet (dload_bad2 W none who i hw.1 hw.2 (rword_nil W i)) hW
    · exact pair_quiet (dload_bad1 W none who i hw) hW
  · have m1 := h3.ext x; have m2 := h4.ext x
    by_cases hw : 0 ≤ who ∧ who < 64
    · by_cases hi : 0 ≤ i ∧ i < (ws.length : Int)
      · obtain ⟨j, rfl⟩ : ∃ j : Nat, i = (j : Int) := ⟨i.toNat, by omega⟩
        obtain ⟨y, hy⟩ : ∃ y, ws[j]? = some y := ⟨_, List.getElem?_eq_getElem (by omega)⟩
        refine ⟨y, 0, pair_same (realload_ok W F1 g ws clk who j y m1 hw.1 hw.2 hy) ((dload_ok W F2 d ws clk L who j y m2 (by omega) hw.1 hw.2 hy).mono ?_)⟩
        rintro e w2 ⟨rfl, hg⟩
        exact ⟨rfl, both_of (h0.trans x) m1 (GB.refl _ _) hg (by simp; omega) h6 h7 h8 h9⟩
      · exact ⟨0, 1, pair_same (realload_bad W _ ws.length who i (realsize_any W F1 g ws clk m1) (by omega)) (pair_quiet (dload_bad2 W _ who i hw.1 hw.2 (rword_bad W F2 d ws clk L i m2 hi)) hW)⟩
    · exact ⟨0, 1, pair_same (realload_bad W _ ws.length who i (realsize_any W F1 g ws clk m1) (by omega)) (pair_quiet (dload_bad1 W _ who i hw) hW)⟩
theorem pair_swap {w0 w W : World} {pr pd : Option Addr} {k : Nat} (h : BothSt w0 pr pd k w) (x : Ext w W) (hk : k ≤ 1000) (who i : Int) (old new : Nat) :
    ∃ (a : Bool) (q : Int), Pair 49 50 #[.pointer pr, .int .i64 who, .int .i64 i, .int .u64 (old : Int), .int .u64 (new : Int)] #[.pointer pd, .int .i64 who, .int .i64 i, .int .u64 (old : Int), .int .u64 (new : Int)] w.heap.size (.tuple #[.bool a, .int .i64 q]) (BothSt w0 pr pd (k + 1)) W := by
  have hW := (h.ext x).more (show k ≤ k + 1 by omega)
  obtain ⟨h0, h⟩ := h
  rcases h with ⟨rfl, rfl⟩ | ⟨g, d, ws, clk, L, F1, F2, rfl, rfl, h3, h4, h5, h6, h7, h8, h9⟩
  · refine ⟨false, 1, pair_same (realswap_bad W none 0 who i old new (realsize_nil W) (by omega)) ?_⟩
    by_cases hw : 0 ≤ who ∧ who < 64
    · exact pair_quiet (dswap_bad2 W none who i old new hw.1 hw.2 (rword_nil W i)) hW
    · exact pair_quiet (dswap_bad1 W none who i old new hw) hW
  · have m1 := h3.ext x; have m2 := h4.ext x
    by_cases hw : 0 ≤ who ∧ who < 64
    · by_cases hi : 0 ≤ i ∧ i < (ws.length : Int)
      · obtain ⟨j, rfl⟩ : ∃ j : Nat, i = (j : Int) := ⟨i.toNat, by omega⟩
        obtain ⟨y, hy⟩ : ∃ y, ws[j]? = some y := ⟨_, List.getElem?_eq_getElem (by omega)⟩
        by_cases he : y = old
        · subst he
          refine ⟨true, 0, (realswap_hit W F1 g ws clk who j y new m1 hw.1 hw.2 hy).mono ?_⟩
          rintro e w1 ⟨rfl, hr, hg1⟩
          have m2' := m2.gb hg1 (fun i hi hi1 => h7 i hi1 hi)
          refine ⟨rfl, hg1.more (fun i _ hi => h3.lt i hi), ?_⟩
          refine (dswap_ok w1 F2 d ws (ws.set j new) clk L _ true who j y new m2' hw.1 hw.2 (by omega) (rswap_hit w1 F2 d ws clk L who j y new m2' (by omega) hy)).mono ?_
          rintro e w2 ⟨rfl, hg⟩
          exact ⟨rfl, both_of (h0.trans x) hr hg1 hg (by simp; omega) h6 h7 h8 h9⟩
        · refine ⟨false, 0, pair_same (realswap_miss W F1 g ws clk who j y old new m1 hw.1 hw.2 hy he) ((dswap_ok W F2 d ws ws clk L _ false who j old new m2 hw.1 hw.2 (by omega) (rswap_miss W F2 d ws clk L who j y old new m2 (by omega) hy he)).mono ?_)⟩
          rintro e w2 ⟨rfl, hg⟩
          exact ⟨rfl, both_of (h0.trans x) m1 (GB.refl _ _) hg (by simp; omega) h6 h7 h8 h9⟩
      · exact ⟨false, 1, pair_same (realswap_bad W _ ws.length who i old new (realsize_any W F1 g ws clk m1) (by omega)) (pair_quiet (dswap_bad2 W _ who i old new hw.1 hw.2 (rword_bad W F2 d ws clk L i m2 hi)) hW)⟩
    · exact ⟨false, 1, pair_same (realswap_bad W _ ws.length who i old new (realsize_any W F1 g ws clk m1) (by omega)) (pair_quiet (dswap_bad1 W _ who i old new hw) hW)⟩
theorem pair_clock {w0 w W : World} {pr pd : Option Addr} {k : Nat} (h : BothSt w0 pr pd k w) (x : Ext w W) (hk : k ≤ 1000) (who : Int) :
    ∃ a q : Int, Pair 51 52 #[.pointer pr, .int .i64 who] #[.pointer pd, .int .i64 who] w.heap.size (.tuple #[.int .i64 a, .int .i64 q]) (BothSt w0 pr pd (k + 1)) W := by
  have hW := (h.ext x).more (show k ≤ k + 1 by omega)
  obtain ⟨h0, h⟩ := h
  by_cases hw : 0 ≤ who ∧ who < 64
  · rcases h with ⟨rfl, rfl⟩ | ⟨g, d, ws, clk, L, F1, F2, rfl, rfl, h3, h4, h5, h6, h7, h8, h9⟩
    · exact ⟨0, 7, pair_same (realclock_nil W who hw.1 hw.2) (pair_quiet (dclock_nil W who hw.1 hw.2) hW)⟩
    · have m1 := h3.ext x; have m2 := h4.ext x
      refine ⟨clk, 0, pair_same (realclock_ok W F1 g ws clk who m1 hw.1 hw.2) ((dclock_ok W F2 d ws clk L who m2 (by omega) hw.1 hw.2 (by omega)).mono ?_)⟩
      rintro e w2 ⟨rfl, hg⟩
      exact ⟨rfl, both_of (h0.trans x) m1 (GB.refl _ _) hg (by simp; omega) h6 h7 h8 h9⟩
  · exact ⟨0, 1, pair_same (realclock_bad W pr who hw) (pair_quiet (dclock_bad W pd who hw) hW)⟩
theorem pair_tick {w0 w W : World} {pr pd : Option Addr} {k : Nat} (h : BothSt w0 pr pd k w) (x : Ext w W) (n : Int) :
    ∃ a q : Int, Pair 53 54 #[.pointer pr, .int .i64 n] #[.pointer pd, .int .i64 n] w.heap.size (.tuple #[.int .i64 a, .int .i64 q]) (BothSt w0 pr pd (k + 1)) W := by
  have hW := (h.ext x).more (show k ≤ k + 1 by omega)
  obtain ⟨h0, h⟩ := h
  by_cases hn : n < 0 ∨ 4611686018427387903 < n
  · exact ⟨0, 1, pair_same (realtick_bad W pr n hn) (pair_quiet (dtick_bad W pd n hn) hW)⟩
  · rcases h with ⟨rfl, rfl⟩ | ⟨g, d, ws, clk, L, F1, F2, rfl, rfl, h3, h4, h5, h6, h7, h8, h9⟩
    · exact ⟨0, 7, pair_same (realtick_nil W n (by omega) (by omega)) (pair_quiet (dtick_nil W n (by omega) (by omega)) hW)⟩
    · have m1 := h3.ext x; have m2 := h4.ext x
      obtain ⟨m, rfl⟩ : ∃ m : Nat, n = (m : Int) := ⟨n.toNat, by omega⟩
      obtain ⟨T, hT, hT2⟩ : ∃ T : Nat, min ((clk : Int) + (m : Int)) 4611686018427387903 = (T : Int) ∧ (T : Int) ≤ 4611686018427387903 := ⟨(min ((clk : Int) + (m : Int)) 4611686018427387903).toNat, by omega, by omega⟩
      refine ⟨T, 0, (realtick_ok W F1 g ws clk T m m1 (by omega) h6 hT).mono ?_⟩
      rintro e w1 ⟨rfl, hr, hg1⟩
      have m2' := m2.gb hg1 (fun i hi hi1 => h7 i hi1 hi)
      refine ⟨rfl, hg1.more (fun i _ hi => h3.lt i hi), ?_⟩
      refine (dtick_ok w1 F2 d ws clk T L m m2' (by omega) h6 hT).mono ?_
      rintro e w2 ⟨rfl, hg⟩
      exact ⟨rfl, both_of (h0.trans x) hr hg1 hg (by omega) hT2 h7 h8 h9⟩
end Go.Proofs.Ytfjgpeffhbfihaa
