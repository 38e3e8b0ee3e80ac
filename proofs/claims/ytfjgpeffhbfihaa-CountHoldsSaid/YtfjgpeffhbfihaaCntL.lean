/- count: each call as if at once. -/
import Derived.Test.YtfjgpeffhbfihaaCntJ
import Derived.Test.YtfjgpeffhbfihaaRecs
namespace Go.Proofs.Ytfjgpeffhbfihaa
open Go.RowKit

def pickKs : List IntKind := [.i64, .u8]
theorem pick_row {R : List (List Int)} (h : RecsOk pickKs R) {i : Nat} {r : List Int} (hr : R[i]? = some r) :
    ∃ (who : Int) (op : Nat), r = [who, (op : Int)] ∧ (-9223372036854775808 ≤ who ∧ who ≤ 9223372036854775807) ∧ op < 256 := by
  obtain ⟨hl, hw⟩ := h r (List.mem_of_getElem? hr)
  match r, hl with
  | [a, b], _ =>
    have h0 := hw 0 .i64 a rfl rfl
    have h1 := hw 1 .u8 b rfl rfl
    simp [Lit.wf, IntKind.min, IntKind.max, IntKind.signed, IntKind.bits] at h0 h1
    obtain ⟨b', rfl⟩ : ∃ b' : Nat, b = (b' : Int) := ⟨b.toNat, by omega⟩
    exact ⟨a, b', rfl, h0, by omega⟩
theorem pick_cells {w : World} {A : Option Addr} {R : List (List Int)} (hr : Rd w A (R.flatMap (recVals pickKs))) (hk : RecsOk pickKs R) {i : Nat} {who : Int} {op : Nat} (hi : R[i]? = some [who, (op : Int)]) :
    ∃ b off, A = some ⟨b, off, none⟩ ∧ b < w.heap.size ∧ w.cell? ⟨b, off + i * 2, none⟩ = some (.int .i64 who) ∧ w.cell? ⟨b, off + i * 2 + 1, none⟩ = some (.int .u8 (op : Int)) := by
  obtain ⟨b, off, hA, hb, hc⟩ := recs_cell hr hk (by decide) hi
  have e : pickKs.length = 2 := rfl
  rw [e] at hc
  exact ⟨b, off, hA, hb, by simpa using hc 0 _ _ rfl rfl, by simpa [Nat.add_assoc] using hc 1 _ _ rfl rfl⟩
/-- a call's state goes with what it is -/
def OpOk (lim : Nat) (op : Nat) : CallS → Prop
  | .idle => True
  | .read => op = 3
  | .load stop e b => (op = 1 ∧ stop = lim ∧ e = 10 ∧ b = 1) ∨ (op = 2 ∧ stop = 0 ∧ e = 5 ∧ b = minus1)
  | .swap n stop e b => n ≤ lim ∧ ((op = 1 ∧ stop = lim ∧ e = 10 ∧ b = 1 ∧ n ≠ lim) ∨ (op = 2 ∧ stop = 0 ∧ e = 5 ∧ b = minus1 ∧ n ≠ 0))
theorem opok_start (lim op : Nat) (h1 : 1 ≤ op) (h3 : op ≤ 3) : OpOk lim op (startS lim op) := by
  rcases (by omega : op = 1 ∨ op = 2 ∨ op = 3) with rfl | rfl | rfl
  · exact .inl ⟨rfl, rfl, rfl, rfl⟩
  · exact .inr ⟨rfl, rfl, rfl, rfl⟩
  · exact rfl
theorem opok_next {lim val op : Nat} {s : CallS} (h : OpOk lim op s) (hv : val ≤ lim) : OpOk lim op (stNext val s) := by
  cases s with
  | idle => trivial
  | read => trivial
  | load stop e b =>
    by_cases hs : val = stop
    · have e1 : stNext val (.load stop e b) = .idle := if_pos hs
      rw [e1]; trivial
    · have e1 : stNext val (.load stop e b) = .swap val stop e b := if_neg hs
      rw [e1]
      refine ⟨hv, ?_⟩
      rcases h with ⟨h0, h1, h2, h3⟩ | ⟨h0, h1, h2, h3⟩
      · exact .inl ⟨h0, h1, h2, h3, by omega⟩
      · exact .inr ⟨h0, h1, h2, h3, by omega⟩
  | swap n stop e b =>
    by_cases hs : val = n
    · have e1 : stNext val (.swap n stop e b) = .idle := if_pos hs
      rw [e1]; trivial
    · have e1 : stNext val (.swap n stop e b) = .load stop e b := if_neg hs
      rw [e1]
      rcases h.2 with ⟨h0, h1, h2, h3, _⟩ | ⟨h0, h1, h2, h3, _⟩
      · exact .inl ⟨h0, h1, h2, h3⟩
      · exact .inr ⟨h0, h1, h2, h3⟩
/-- what a call that returns answers -/
def AtOnce (lim op val : Nat) (er nu : Int) (val' : Nat) : Prop :=
  (op = 3 ∧ er = 0 ∧ nu = (val : Int) ∧ val' = val) ∨ (op = 1 ∧ val = lim ∧ er = 10 ∧ nu = 0 ∧ val' = val) ∨ (op = 2 ∧ val = 0 ∧ er = 5 ∧ nu = 0 ∧ val' = val) ∨
    (op = 1 ∧ val ≠ lim ∧ er = 0 ∧ nu = (val : Int) + 1 ∧ val' = val + 1) ∨ (op = 2 ∧ val ≠ 0 ∧ er = 0 ∧ nu = (val : Int) - 1 ∧ val = val' + 1)
theorem at_once {lim op val : Nat} {s : CallS} (h : OpOk lim op s) (hs : s ≠ .idle) (hd : stDone val s = true) (hl : (lim : Int) ≤ 4611686018427387903) : AtOnce lim op val (stErr val s) (stNum val s) (stVal val s) := by
  cases s with
  | idle => exact absurd rfl hs
  | read => exact .inl ⟨h, rfl, rfl, rfl⟩
  | load stop e b =>
    have he : val = stop := by simpa [stDone] using hd
    have e1 : stErr val (.load stop e b) = e := if_pos he
    have e2 : stVal val (.load stop e b) = val := rfl
    have e3 : stNum val (.load stop e b) = 0 := rfl
    rw [e1, e2, e3]
    rcases h with ⟨h0, h1, h2, h3⟩ | ⟨h0, h1, h2, h3⟩
    · exact .inr (.inl ⟨h0, by omega, h2, rfl, rfl⟩)
    · exact .inr (.inr (.inl ⟨h0, by omega, h2, rfl, rfl⟩))
  | swap n stop e b =>
    have he : val = n := by simpa [stDone] using hd
    have e1 : stErr val (.swap n stop e b) = 0 := rfl
    have e2 : stVal val (.swap n stop e b) = addW n b := if_pos he
    have e3 : stNum val (.swap n stop e b) = (addW n b : Int) := if_pos he
    rw [e1, e2, e3]
    subst he
    have hv := h.1
    rcases h.2 with ⟨h0, h1, h2, rfl, h4⟩ | ⟨h0, h1, h2, rfl, h4⟩
    · rw [addW_up (lim := lim) (by omega) hl]
      exact .inr (.inr (.inr (.inl ⟨h0, h4, rfl, by omega, rfl⟩)))
    · rw [addW_down (by omega) (by omega)]
      exact .inr (.inr (.inr (.inr ⟨h0, h4, rfl, by omega, by omega⟩)))
theorem not_done {val : Nat} {s : CallS} (hs : s ≠ .idle) (hd : stDone val s = false) : stErr val s = 0 ∧ stNum val s = 0 ∧ stVal val s = val := by
  cases s with
  | idle => exact absurd rfl hs
  | read => cases hd
  | load stop e b =>
    have he : val ≠ stop := by simpa [stDone] using hd
    exact ⟨if_neg he, rfl, rfl⟩
  | swap n stop e b =>
    have he : val ≠ n := by simpa [stDone] using hd
    exact ⟨rfl, if_neg he, if_neg he⟩
end Go.Proofs.Ytfjgpeffhbfihaa
