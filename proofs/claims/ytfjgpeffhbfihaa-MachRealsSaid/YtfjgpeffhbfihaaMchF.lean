/- spigotlaw11: the calls of a script; what MachTail keeps. -/
import Derived.Test.YtfjgpeffhbfihaaMchE
import Derived.Test.YtfjgpeffhbfihaaRecs
namespace Go.Proofs.Ytfjgpeffhbfihaa
open Go.RowKit

def opKs : List IntKind := [.u8, .i64, .i64, .u64, .u64, .i64]
theorem op_row {R : List (List Int)} (h : RecsOk opKs R) {i : Nat} {r : List Int} (hr : R[i]? = some r) :
    ∃ (k : Nat) (who word : Int) (old new : Nat) (t : Int), r = [(k : Int), who, word, (old : Int), (new : Int), t] ∧ k < 256 ∧ (-9223372036854775808 ≤ who ∧ who ≤ 9223372036854775807) ∧ (-9223372036854775808 ≤ word ∧ word ≤ 9223372036854775807) ∧ old < 18446744073709551616 ∧ new < 18446744073709551616 ∧ (-9223372036854775808 ≤ t ∧ t ≤ 9223372036854775807) := by
  obtain ⟨hl, hw⟩ := h r (List.mem_of_getElem? hr)
  match r, hl with
  | [a, b, c, d, e, f], _ =>
    have h0 := hw 0 .u8 a rfl rfl
    have h1 := hw 1 .i64 b rfl rfl
    have h2 := hw 2 .i64 c rfl rfl
    have h3 := hw 3 .u64 d rfl rfl
    have h4 := hw 4 .u64 e rfl rfl
    have h5 := hw 5 .i64 f rfl rfl
    simp [Lit.wf, IntKind.min, IntKind.max, IntKind.signed, IntKind.bits] at h0 h1 h2 h3 h4 h5
    obtain ⟨a', rfl⟩ : ∃ a' : Nat, a = (a' : Int) := ⟨a.toNat, by omega⟩
    obtain ⟨d', rfl⟩ : ∃ d' : Nat, d = (d' : Int) := ⟨d.toNat, by omega⟩
    obtain ⟨e', rfl⟩ : ∃ e' : Nat, e = (e' : Int) := ⟨e.toNat, by omega⟩
    exact ⟨a', b, c, d', e', f, rfl, by omega, h1, h2, by omega, by omega, h5⟩
theorem op_cells {w : World} {A : Option Addr} {R : List (List Int)} (hr : Rd w A (R.flatMap (recVals opKs))) (hk : RecsOk opKs R) {i k : Nat} {who word : Int} {old new : Nat} {t : Int} (hi : R[i]? = some [(k : Int), who, word, (old : Int), (new : Int), t]) :
    ∃ b off, A = some ⟨b, off, none⟩ ∧ b < w.heap.size ∧ w.cell? ⟨b, off + i * 6, none⟩ = some (.int .u8 (k : Int)) ∧ w.cell? ⟨b, off + i * 6 + 1, none⟩ = some (.int .i64 who) ∧ w.cell? ⟨b, off + i * 6 + 2, none⟩ = some (.int .i64 word) ∧
      w.cell? ⟨b, off + i * 6 + 3, none⟩ = some (.int .u64 (old : Int)) ∧ w.cell? ⟨b, off + i * 6 + 4, none⟩ = some (.int .u64 (new : Int)) ∧ w.cell? ⟨b, off + i * 6 + 5, none⟩ = some (.int .i64 t) := by
  obtain ⟨b, off, hA, hb, hc⟩ := recs_cell hr hk (by decide) hi
  have e : opKs.length = 6 := rfl
  rw [e] at hc
  exact ⟨b, off, hA, hb, by simpa using hc 0 _ _ rfl rfl, by simpa [Nat.add_assoc] using hc 1 _ _ rfl rfl, by simpa [Nat.add_assoc] using hc 2 _ _ rfl rfl, by simpa [Nat.add_assoc] using hc 3 _ _ rfl rfl, by simpa [Nat.add_assoc] using hc 4 _ _ rfl rfl, by simpa [Nat.add_assoc] using hc 5 _ _ rfl rfl⟩
/-- a machine of n words that has done at most k accesses -/
def TailSt (w0 : World) (g n k : Nat) (w : World) : Prop := ∃ ws L, ws.length = n ∧ L.length ≤ k ∧ MachIn w0 g ws 0 L w
theorem TailSt.ext {w0 w w' : World} {g n k : Nat} (h : TailSt w0 g n k w) (x : Ext w w') : TailSt w0 g n k w' := by
  obtain ⟨ws, L, h1, h2, h3⟩ := h
  exact ⟨ws, L, h1, h2, h3.ext x⟩
theorem TailSt.more {w0 w : World} {g n k k' : Nat} (h : TailSt w0 g n k w) (hk : k ≤ k') : TailSt w0 g n k' w := by
  obtain ⟨ws, L, h1, h2, h3⟩ := h
  exact ⟨ws, L, h1, by omega, h3⟩
def TailLoad (w0 : World) (g n k : Nat) (e : Ending) (w' : World) : Prop := ∃ v q : Value, e = .returned (.tuple #[v, q]) ∧ TailSt w0 g n k w'
theorem tail_load (w0 w : World) (g n k : Nat) (who i : Int) (h : TailSt w0 g n k w) (hk : k ≤ 1000) :
    Calls Try.prog 12 #[.pointer (some ⟨g, 0, none⟩), .int .i64 who, .int .i64 i] w (TailLoad w0 g n (k + 1)) := by
  obtain ⟨ws, L, rfl, h2, F, m, x, f⟩ := h
  by_cases hb : 0 ≤ who ∧ who < 64 ∧ 0 ≤ i ∧ i < (ws.length : Int)
  · obtain ⟨j, rfl⟩ : ∃ j : Nat, i = (j : Int) := ⟨i.toNat, by omega⟩
    obtain ⟨y, hy⟩ : ∃ y, ws[j]? = some y := ⟨_, List.getElem?_eq_getElem (by omega)⟩
    refine (load_ok w F g ws 0 L who j y m (by omega) hb.1 hb.2.1 hy).mono ?_
    rintro e w' ⟨rfl, hg⟩
    exact ⟨_, _, rfl, ws, _, rfl, by simp; omega, MachIn.go x f hg⟩
  · refine (load_bad w F g ws 0 L who i m hb).mono ?_
    rintro e w' ⟨rfl, rfl⟩
    exact ⟨_, _, rfl, ws, L, rfl, by omega, F, m, x, f⟩
theorem tail_swap (w0 w : World) (g n k : Nat) (who i : Int) (old new : Nat) (h : TailSt w0 g n k w) (hk : k ≤ 1000) :
    Calls Try.prog 13 #[.pointer (some ⟨g, 0, none⟩), .int .i64 who, .int .i64 i, .int .u64 (old : Int), .int .u64 (new : Int)] w (TailLoad w0 g n (k + 1)) := by
  obtain ⟨ws, L, rfl, h2, F, m, x, f⟩ := h
  by_cases hb : 0 ≤ who ∧ who < 64 ∧ 0 ≤ i ∧ i < (ws.length : Int)
  · obtain ⟨j, rfl⟩ : ∃ j : Nat, i = (j : Int) := ⟨i.toNat, by omega⟩
    obtain ⟨y, hy⟩ : ∃ y, ws[j]? = some y := ⟨_, List.getElem?_eq_getElem (by omega)⟩
    by_cases he : y = old
    · subst he
      refine (swap_hit w F g ws 0 L who j y new m (by omega) hb.1 hb.2.1 hy).mono ?_
      rintro e w' ⟨rfl, hg⟩
      exact ⟨_, _, rfl, _, _, by simp, by simp; omega, MachIn.go x f hg⟩
    · refine (swap_miss w F g ws 0 L who j y old new m (by omega) hb.1 hb.2.1 hy he).mono ?_
      rintro e w' ⟨rfl, hg⟩
      exact ⟨_, _, rfl, ws, _, rfl, by simp; omega, MachIn.go x f hg⟩
  · refine (swap_bad w F g ws 0 L who i old new m hb).mono ?_
    rintro e w' ⟨rfl, rfl⟩
    exact ⟨_, _, rfl, ws, L, rfl, by omega, F, m, x, f⟩
theorem tail_clock (w0 w : World) (g n k : Nat) (who : Int) (h : TailSt w0 g n k w) (hk : k ≤ 1000) :
    Calls Try.prog 14 #[.pointer (some ⟨g, 0, none⟩), .int .i64 who] w (TailLoad w0 g n (k + 1)) := by
  obtain ⟨ws, L, rfl, h2, F, m, x, f⟩ := h
  by_cases hb : 0 ≤ who ∧ who < 64
  · refine (clock_ok w F g ws 0 L who m (by omega) hb.1 hb.2 (by omega)).mono ?_
    rintro e w' ⟨rfl, hg⟩
    exact ⟨_, _, rfl, ws, _, rfl, by simp; omega, MachIn.go x f hg⟩
  · refine (clock_bad w _ who hb).mono ?_
    rintro e w' ⟨rfl, rfl⟩
    exact ⟨_, _, rfl, ws, L, rfl, by omega, F, m, x, f⟩
end Go.Proofs.Ytfjgpeffhbfihaa
