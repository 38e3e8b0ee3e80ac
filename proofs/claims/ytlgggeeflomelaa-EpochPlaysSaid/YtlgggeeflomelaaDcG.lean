/- spigotref13: collect. -/
import Derived.Test.YtlgggeeflomelaaDcF
namespace Go.Proofs.Ytlgggeeflomelaa
open Go.RowKit

theorem blk_grown' {w w' : World} {g : Nat} {o : Obj} {row : Option Nat} (h : w.heap[g]? = some o) (hg : w.grownBy w' row) (hne : ¬ some g = row) : w'.heap[g]? = some o :=
  (hg.block g (blk_lt h) (fun e => hne (by first | exact e | exact e.symm))).trans h
/-- what the loop of collect has so far; rb: its result -/
def DColl (W : World) (rb e k : Nat) (xs : List (Int × Nat)) (v : Value) (wr : World) : Prop :=
  ∃ (A : Option Addr) (a ca : Nat) (B : Option Addr) (b cb : Nat), v = .slice B b cb ∧ wr.heap[rb]? = some (.cells #[.bool true, .int .i64 0, .int .i64 (a : Int), .slice A a ca] 52 (0, 0)) ∧ wr.ownsRow W.heap.size 3 1 (.slice A a ca) a (ivals (oldOf e (xs.take k))) ∧ wr.ownsRow W.heap.size 138 2 (.slice B b cb) b (dthings (stayOf e (xs.take k))) ∧ a ≤ k ∧ b ≤ k ∧ (∀ q, (Value.slice A a ca).ownBlock = some q → (Value.slice B b cb).ownBlock ≠ some q) ∧ GB W wr (· = rb)
theorem dcoll_old {W wr w1 : World} {rb e k : Nat} {xs : List (Int × Nat)} {t : Int × Nat} {A A1 : Option Addr} {a ca c1 : Nat} {B : Option Addr} {b cb : Nat} {N : Nat} (hrb : rb < W.heap.size) (ht : xs[k]? = some t) (hot : isOld e t = true) (x : GB W wr (· = rb)) {wx : World} (xw : Ext wr wx) (hR : wr.heap[rb]? = some (.cells #[.bool true, .int .i64 0, .int .i64 (a : Int), .slice A a ca] 52 (0, 0))) (hA : wr.ownsRow W.heap.size 3 1 (.slice A a ca) a (ivals (oldOf e (xs.take k)))) (hB : wr.ownsRow W.heap.size 138 2 (.slice B b cb) b (dthings (stayOf e (xs.take k))))
    (hne : ∀ q, (Value.slice A a ca).ownBlock = some q → (Value.slice B b cb).ownBlock ≠ some q) (ha : a ≤ k) (hb : b ≤ k) (h1 : w1.ownsRow W.heap.size 3 1 (.slice A1 (a + 1) c1) (a + 1) (ivals (oldOf e (xs.take k) ++ [t.1]))) (g : wx.grownBy w1 (Value.slice A a ca).ownBlock) (hN : wx.heap.size = N) (hb1 : (Value.slice A1 (a + 1) c1).ownBlock = (Value.slice A a ca).ownBlock ∨ (Value.slice A1 (a + 1) c1).ownBlock = some N) :
    w1.heap[rb]? = some (.cells #[.bool true, .int .i64 0, .int .i64 (a : Int), .slice A a ca] 52 (0, 0)) ∧ DColl W rb e (k + 1) xs (.slice B b cb) ((w1.setCell ⟨rb, 3, none⟩ (.slice A1 (a + 1) c1)).setCell ⟨rb, 2, none⟩ (.int .i64 ((a : Int) + 1))) := by
  have hh := old_succ ht hot
  have hBx := own_ext hB xw
  have hne' : (Value.slice B b cb).ownBlock = none ∨ (Value.slice B b cb).ownBlock ≠ (Value.slice A a ca).ownBlock := by
    cases hq : (Value.slice B b cb).ownBlock with
    | none => exact .inl rfl
    | some q => exact .inr fun h => hne q h.symm hq
  have hrA : ∀ q, (Value.slice A a ca).ownBlock = some q → q ≠ rb := fun q hq e => by have := (hA.lt q hq).1; omega
  have hR1 := blk_grown' (blk_ext hR xw) g (fun e => hrA _ e.symm rfl)
  have gs := ((GB.refl w1 (· = rb)).set rb 3 (.slice A1 (a + 1) c1) (.inl rfl)).set rb 2 (.int .i64 ((a : Int) + 1)) (.inl rfl)
  refine ⟨hR1, A1, a + 1, c1, B, b, cb, rfl, ?_, by rw [hh.1]; exact gs.own h1 (fun q hq e => by have := (h1.lt q hq).1; omega), by rw [hh.2]; exact gs.own (hBx.kept g hne') (fun q hq e => by have := (hBx.lt q hq).1; omega), by omega, by omega, fun q hq1 hq2 => ?_, ((x.ext xw).grown g (fun q hq => .inr (hA.lt q hq).1)).trans gs (fun i hi => .inl hi)⟩
  · exact blk_set (blk_set hR1 3 _) 2 _
  · rcases hb1 with h | h
    · exact hne q (h ▸ hq1) hq2
    · rw [h] at hq1
      injection hq1 with hq1
      have := (hBx.lt q hq2).2
      omega
theorem dcoll_stay {W wr w1 : World} {rb e k : Nat} {xs : List (Int × Nat)} {t : Int × Nat} {A B1 : Option Addr} {a ca c1 : Nat} {B : Option Addr} {b cb : Nat} {N : Nat} (hrb : rb < W.heap.size) (ht : xs[k]? = some t) (hot : isOld e t = false) (x : GB W wr (· = rb)) {wx : World} (xw : Ext wr wx) (hR : wr.heap[rb]? = some (.cells #[.bool true, .int .i64 0, .int .i64 (a : Int), .slice A a ca] 52 (0, 0))) (hA : wr.ownsRow W.heap.size 3 1 (.slice A a ca) a (ivals (oldOf e (xs.take k)))) (hB : wr.ownsRow W.heap.size 138 2 (.slice B b cb) b (dthings (stayOf e (xs.take k))))
    (hne : ∀ q, (Value.slice A a ca).ownBlock = some q → (Value.slice B b cb).ownBlock ≠ some q) (ha : a ≤ k) (hb : b ≤ k) (h1 : w1.ownsRow W.heap.size 138 2 (.slice B1 (b + 1) c1) (b + 1) (dthings (stayOf e (xs.take k) ++ [t]))) (g : wx.grownBy w1 (Value.slice B b cb).ownBlock) (hN : wx.heap.size = N) (hb1 : (Value.slice B1 (b + 1) c1).ownBlock = (Value.slice B b cb).ownBlock ∨ (Value.slice B1 (b + 1) c1).ownBlock = some N) :
    DColl W rb e (k + 1) xs (.slice B1 (b + 1) c1) w1 := by
  have hh := stay_succ ht hot
  have hAx := own_ext hA xw
  have hne' : (Value.slice A a ca).ownBlock = none ∨ (Value.slice A a ca).ownBlock ≠ (Value.slice B b cb).ownBlock := by
    cases hq : (Value.slice A a ca).ownBlock with
    | none => exact .inl rfl
    | some q => exact .inr fun h => hne q hq h.symm
  refine ⟨A, a, ca, B1, b + 1, c1, rfl, blk_grown' (blk_ext hR xw) g (fun e => by have := (hB.lt _ e.symm).1; omega), by rw [hh.1]; exact hAx.kept g hne', by rw [hh.2]; exact h1, by omega, by omega, fun q hq1 hq2 => ?_, (x.ext xw).grown g (fun q hq => .inr (hB.lt q hq).1)⟩
  rcases hb1 with h | h
  · exact hne q hq1 (h ▸ hq2)
  · rw [h] at hq2
    injection hq2 with hq2
    have := (hAx.lt q hq1).2
    omega
end Go.Proofs.Ytlgggeeflomelaa
