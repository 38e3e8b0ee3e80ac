/- law 14, ShardFree in plain Lean: how many steps the calls are away from returning. -/
import Derived.Test.YtlgggeeflomelaaShM
namespace Go.Proofs.Ytlgggeeflomelaa

def leftC (ver : Nat) : SCall → Nat
  | .swap _ _ _ v _ _ => if ver = v then 0 else 2
  | _ => 1
theorem leftC_le (ver : Nat) (c : SCall) : leftC ver c ≤ 2 := by
  unfold leftC
  split
  · split <;> omega
  · omega
def sumL (s : SSt) : Nat → Nat
  | 0 => 0
  | w + 1 => sumL s w + leftC s.ver (s.call w)
theorem sumL_le (s : SSt) : ∀ w, sumL s w ≤ 2 * w
  | 0 => Nat.le_refl _
  | w + 1 => by have := sumL_le s w; have := leftC_le s.ver (s.call w); unfold sumL; omega
/-- a step that returns nothing -/
theorem left_step {s : SSt} {d : Nat} (hi : s.call d ≠ .idle) (hd : (sStep s d).2.done = false) : (sStep s d).1.ver = s.ver ∧ leftC s.ver ((sStep s d).1.call d) + 1 = leftC s.ver (s.call d) := by
  unfold sStep at hd ⊢
  cases he : s.call d with
  | idle => exact absurd he hi
  | begun op key val =>
    rw [he] at hd
    dsimp only at hd ⊢
    by_cases h1 : op = 1
    · rw [if_pos h1] at hd
      split at hd <;> cases hd
    · rw [if_neg h1] at hd ⊢
      by_cases h2 : (madeE op key val s.lst).2.2 ≠ 0
      · rw [if_pos h2] at hd; cases hd
      · rw [if_neg h2]
        refine ⟨rfl, ?_⟩
        dsimp only
        rw [sput_self]
        show (if s.ver = s.ver then 0 else 2) + 1 = 1
        rw [if_pos rfl]
  | swap op key val v m n =>
    rw [he] at hd
    dsimp only at hd ⊢
    by_cases h1 : s.ver = v
    · rw [if_pos h1] at hd; cases hd
    · rw [if_neg h1]
      refine ⟨rfl, ?_⟩
      dsimp only
      rw [sput_self]
      show 1 + 1 = (if s.ver = v then 0 else 2)
      rw [if_neg h1]
theorem sumL_same {s s' : SSt} (hv : s'.ver = s.ver) : ∀ w, (∀ j, j < w → s'.call j = s.call j) → sumL s' w = sumL s w
  | 0, _ => rfl
  | w + 1, h => by
    unfold sumL
    rw [sumL_same hv w (fun j hj => h j (by omega)), h w (by omega), hv]
theorem sumL_step {s s' : SSt} {d : Nat} (hv : s'.ver = s.ver) (ho : ∀ j, j ≠ d → s'.call j = s.call j) (hd : leftC s.ver (s'.call d) + 1 = leftC s.ver (s.call d)) : ∀ w, d < w → sumL s' w + 1 = sumL s w
  | 0, h => by omega
  | w + 1, h => by
    unfold sumL
    by_cases e : d = w
    · subst e
      rw [sumL_same hv d (fun j hj => ho j (by omega)), hv]
      omega
    · have := sumL_step hv ho hd w (by omega)
      rw [ho w (fun h => e h.symm), hv]
      omega
/-- ShardFree's count -/
theorem free_step {s : SSt} {d w q : Nat} (hd : d < w) (hi : s.call d ≠ .idle) (hq : q + sumL s w ≤ 2 * w) : (if (sStep s d).2.done = true then 0 else q + 1) + sumL (sStep s d).1 w ≤ 2 * w := by
  cases h : (sStep s d).2.done with
  | true => rw [if_pos rfl]; have := sumL_le (sStep s d).1 w; omega
  | false =>
    obtain ⟨h1, h2⟩ := left_step hi h
    have := sumL_step h1 (fun j hj => sother hj) h2 w hd
    rw [if_neg (by simp)]
    omega
/-- a call that begins leaves the count -/
theorem free_start {s : SSt} {d w : Nat} {op : Nat} {key : List Nat} {val : Int} (hi : s.call d = .idle) : sumL (s.put d (.begun op key val)) w = sumL s w := by
  induction w with
  | zero => rfl
  | succ w ih =>
    unfold sumL
    rw [ih]
    by_cases e : w = d
    · subst e
      rw [sput_self, hi]
      rfl
    · rw [sput_other s _ e]
      rfl
end Go.Proofs.Ytlgggeeflomelaa
