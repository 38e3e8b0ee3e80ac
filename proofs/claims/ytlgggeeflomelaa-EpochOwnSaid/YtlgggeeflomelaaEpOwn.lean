/- epochs in plain Lean: what a call alone leaves of a worker's list. -/
import Derived.Test.YtlgggeeflomelaaEpAlone
namespace Go.Proofs.Ytlgggeeflomelaa

theorem filter_fst (e : Nat) {l : List (Int × Nat)} (h : Sorted l) : oldOf e l = (l.map (·.1)).take (oldOf e l).length ∧ (oldOf e l).length ≤ l.length ∧ (stayOf e l).map (·.1) = (l.map (·.1)).drop (oldOf e l).length := by
  have hs := split_old (e := e) h
  have hm : l.map (·.1) = oldOf e l ++ (stayOf e l).map (·.1) := by
    have := congrArg (List.map (·.1)) hs
    rw [List.map_append] at this
    exact this.symm
  refine ⟨?_, ?_, ?_⟩
  · rw [hm, List.take_left]
  · unfold oldOf
    rw [List.length_map]
    exact List.length_filter_le _ _
  · rw [hm, List.drop_left]
/-- the list that EpochOwn keeps, behind its own append -/
def ownList (o : Nat) (L : List Int) (k : Int) : List Int := if o = 3 then L ++ [k] else L
theorem own_fin {n o was who : Nat} {pn : Bool} {h0 : List (Int × Nat)} {pw0 : Nat → Nat} {k : Int} {s : ESt} {r : ERes} (h : FinOk n o was pn h0 pw0 k who s r) (hS : Sorted h0) :
    r.things = (ownList o (h0.map (·.1)) k).take r.things.length ∧ r.things.length ≤ (ownList o (h0.map (·.1)) k).length ∧ (s.wk who).held.map (·.1) = (ownList o (h0.map (·.1)) k).drop r.things.length ∧ (o ≠ 5 → r.things = []) := by
  obtain ⟨_, h⟩ := h
  unfold ownList
  rcases h with ⟨rfl, _, _, h, rfl⟩ | ⟨rfl, _, _, h, rfl⟩ | ⟨rfl, _, _, h, rfl⟩ | ⟨rfl, _, h, _, h'⟩ | ⟨rfl, _, _, h, rfl⟩
  · rw [if_neg (by decide), h]; exact ⟨by simp, Nat.zero_le _, rfl, fun _ => rfl⟩
  · rw [if_neg (by decide), h]; exact ⟨by simp, Nat.zero_le _, rfl, fun _ => rfl⟩
  · rw [if_pos rfl, h]; exact ⟨by simp, Nat.zero_le _, by simp, fun _ => rfl⟩
  · rw [if_neg (by decide), h]
    rcases h' with ⟨_, rfl⟩ | ⟨_, rfl, _⟩
    · exact ⟨by simp, Nat.zero_le _, rfl, fun _ => rfl⟩
    · exact ⟨by simp, Nat.zero_le _, rfl, fun _ => rfl⟩
  · rw [if_neg (by decide), h]
    obtain ⟨a, b, c⟩ := filter_fst was hS
    exact ⟨a, by simpa using b, c, fun h => absurd rfl h⟩
end Go.Proofs.Ytlgggeeflomelaa
