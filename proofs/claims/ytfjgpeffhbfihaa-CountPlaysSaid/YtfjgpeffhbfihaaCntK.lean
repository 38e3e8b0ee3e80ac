/- count: how many steps may pass with no return. -/
import Derived.Test.YtfjgpeffhbfihaaCntJ
namespace Go.Proofs.Ytfjgpeffhbfihaa
open Go.RowKit

/-- steps of a call since it began, its last Load, or the last return of any call: at most so many -/
def cred (val : Nat) : CallS → Nat
  | .load _ _ _ => 1
  | .swap n _ _ _ => if n = val then 2 else 0
  | _ => 0
def credSum (val : Nat) (S : Nat → CallS) : Nat → Nat
  | 0 => 0
  | W + 1 => credSum val S W + cred val (S W)
theorem cred_le (val : Nat) (s : CallS) : cred val s ≤ 2 := by
  cases s with
  | swap n _ _ _ => simp only [cred]; split <;> omega
  | _ => simp [cred]
theorem credSum_le (val : Nat) (S : Nat → CallS) (W : Nat) : credSum val S W ≤ 2 * W := by
  induction W with
  | zero => simp [credSum]
  | succ W ih => have := cred_le val (S W); simp only [credSum]; omega
theorem credSum_upd_past (val : Nat) (S : Nat → CallS) (who : Nat) (s : CallS) : ∀ W, W ≤ who → credSum val (updS S who s) W = credSum val S W
  | 0, _ => rfl
  | W + 1, h => by simp only [credSum]; rw [credSum_upd_past val S who s W (by omega), updS_other S s (by omega)]
theorem credSum_upd (val : Nat) (S : Nat → CallS) (who : Nat) (s : CallS) : ∀ W, who < W → credSum val (updS S who s) W + cred val (S who) = credSum val S W + cred val s
  | 0, h => by omega
  | W + 1, h => by
    simp only [credSum]
    by_cases e : who = W
    · subst e
      rw [credSum_upd_past val S who s who (Nat.le_refl _), updS_self]
      omega
    · rw [updS_other S s (fun h => e h.symm)]
      have := credSum_upd val S who s W (by omega)
      omega
theorem start_some (lim op : Nat) : startS lim op ≠ .idle := by
  unfold startS
  split
  · intro e; cases e
  · split <;> (intro e; cases e)
theorem cred_start {val : Nat} {S : Nat → CallS} {who W lim op : Nat} (h : S who = .idle) (hw : who < W) : credSum val S W ≤ credSum val (updS S who (startS lim op)) W := by
  have := credSum_upd val S who (startS lim op) W hw
  rw [h] at this
  simp only [cred] at this
  omega
/-- a step with which no call returns -/
theorem cred_quiet {val : Nat} {S : Nat → CallS} {who W : Nat} (hs : S who ≠ .idle) (hd : stDone val (S who) = false) (hw : who < W) : credSum val S W + 1 ≤ credSum (stVal val (S who)) (updS S who (stNext val (S who))) W := by
  have h := credSum_upd val S who (stNext val (S who)) W hw
  cases hsw : S who with
  | idle => exact absurd hsw hs
  | read => rw [hsw] at hd; cases hd
  | load stop e b =>
    rw [hsw] at hd h
    have hne : val ≠ stop := by simpa [stDone] using hd
    have e1 : stNext val (.load stop e b) = .swap val stop e b := if_neg hne
    have e2 : stVal val (.load stop e b) = val := rfl
    rw [e1] at h ⊢
    rw [e2]
    simp only [cred, if_true] at h
    omega
  | swap n stop e b =>
    rw [hsw] at hd h
    have hne : val ≠ n := by simpa [stDone] using hd
    have e1 : stNext val (.swap n stop e b) = .load stop e b := if_neg hne
    have e2 : stVal val (.swap n stop e b) = val := if_neg hne
    rw [e1] at h ⊢
    rw [e2]
    have e3 : cred val (.swap n stop e b) = 0 := if_neg (fun e => hne e.symm)
    have e4 : cred val (.load stop e b) = 1 := rfl
    rw [e3, e4] at h
    omega
end Go.Proofs.Ytfjgpeffhbfihaa
