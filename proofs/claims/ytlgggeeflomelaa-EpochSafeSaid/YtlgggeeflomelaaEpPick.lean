/- spigotlaw13: the picks of a script. -/
import Derived.Test.YtlgggeeflomelaaRecs
namespace Go.Proofs.Ytlgggeeflomelaa
open Go.RowKit

def epickKs : List IntKind := [.i64, .u8, .i64]
theorem epick_row {R : List (List Int)} (h : RecsOk epickKs R) {i : Nat} {r : List Int} (hr : R[i]? = some r) :
    ∃ (who : Int) (op : Nat) (th : Int), r = [who, (op : Int), th] ∧ (-9223372036854775808 ≤ who ∧ who ≤ 9223372036854775807) ∧ op < 256 ∧ (-9223372036854775808 ≤ th ∧ th ≤ 9223372036854775807) := by
  obtain ⟨hl, hw⟩ := h r (List.mem_of_getElem? hr)
  match r, hl with
  | [a, b, c], _ =>
    have h0 := hw 0 .i64 a rfl rfl
    have h1 := hw 1 .u8 b rfl rfl
    have h2 := hw 2 .i64 c rfl rfl
    simp [Lit.wf, IntKind.min, IntKind.max, IntKind.signed, IntKind.bits] at h0 h1 h2
    obtain ⟨b', rfl⟩ : ∃ b' : Nat, b = (b' : Int) := ⟨b.toNat, by omega⟩
    exact ⟨a, b', c, rfl, h0, by omega, h2⟩
theorem epick_cells {w : World} {A : Option Addr} {R : List (List Int)} (hr : Rd w A (R.flatMap (recVals epickKs))) (hk : RecsOk epickKs R) {i : Nat} {who : Int} {op : Nat} {th : Int} (hi : R[i]? = some [who, (op : Int), th]) :
    ∃ b off, A = some ⟨b, off, none⟩ ∧ b < w.heap.size ∧ w.cell? ⟨b, off + i * 3, none⟩ = some (.int .i64 who) ∧ w.cell? ⟨b, off + i * 3 + 1, none⟩ = some (.int .u8 (op : Int)) ∧ w.cell? ⟨b, off + i * 3 + 2, none⟩ = some (.int .i64 th) := by
  obtain ⟨b, off, hA, hb, hc⟩ := recs_cell hr hk (by decide) hi
  have e : epickKs.length = 3 := rfl
  rw [e] at hc
  exact ⟨b, off, hA, hb, by simpa using hc 0 _ _ rfl rfl, by simpa [Nat.add_assoc] using hc 1 _ _ rfl rfl, by simpa [Nat.add_assoc] using hc 2 _ _ rfl rfl⟩
theorem umod {who : Int} (n : Nat) (hn : 0 < n) : ∃ u d : Nat, IntKind.u64.wrap who = (u : Int) ∧ (u : Int) % (n : Int) = (d : Int) ∧ d < n := by
  refine ⟨(IntKind.u64.wrap who).toNat, (IntKind.u64.wrap who).toNat % n, by rw [IntKind.wrap_u64]; omega, by simp, Nat.mod_lt _ hn⟩
end Go.Proofs.Ytlgggeeflomelaa
