/- How the arguments of a statement are opened, 6: a struct of a number and a slice of numbers. No program in sight. -/
import Derived.Test.YtemnhnhpaaoccaaFrame
import Derived.Lib.SmallJoins
import Derived.SizedLaws
namespace Go.Proofs.Ytemnhnhpaaoccaa
open Go.RowKit
open Go.ChangeShapes Go.WideShapes Go.ChangeAt Go.Joins Go.Deep

section
variable {H : Type} {enc : TypeId × Value → H} {P : Program}
theorem open_is {r : Reach} {b0 : Nat} {W : World} {t e : TypeId} {f0 f1 : Field} {v : Value} {d : DataW H} {p : List MemPlace} (hs : P.underlying t = some (.struct #[f0, f1])) (hone : oneCellFields P #[f0, f1] = true) (hC : P.cellsOf t = 2)
    (u0 : P.underlying f0.type = some (.int .i64)) (u1 : P.underlying f1.type = some (.slice e)) (ue : P.underlying e = some (.int .i64)) (ce : P.cellsOf e = 1)
    (hv : Value.okWide P W r b0 t v) (h : DataW.Trod enc P W 0 (fun _ => true) true t v d p) :
    ∃ (a : Int) (A : Option Addr) (len cap : Nat) (xs : List Int) (d1 : DataW H), v = .agg #[.int .i64 a, .slice A len cap] ∧ xs.length = len ∧ Rd W A (xs.map (Value.int .i64)) ∧ len ≤ cap ∧ cap ≤ maxLen ∧ SizeOf d1 len cap ∧ d = .agg [.lit (.int .i64 a), d1] := by
  obtain ⟨v0, v1, y0, y1, n, rfl, rfl, rfl, t0, t1⟩ := open_agg2 hs hone hC hv h
  obtain ⟨a, ha, rfl, wa⟩ := DataW.trod_int u0 t0
  injection ha with ha _
  subst ha
  obtain ⟨A, len, cap, rfl⟩ : ∃ A len cap, v1 = .slice A len cap := by
    rcases open_ints u1 ue ce t1 with ⟨hcs, _⟩ | ⟨x, l, c, zs, hcs, _⟩
    · injection hcs with h1 _; exact ⟨_, _, _, h1⟩
    · injection hcs with h1 _; exact ⟨_, _, _, h1⟩
  obtain ⟨xs, hl, _, hr, hc, hm, hsz⟩ := open_intsL u1 ue ce (d := y1.1) (p := y1.2) ⟨n, by simpa [Value.cells] using t1⟩
  exact ⟨a, A, len, cap, xs, y1.1, rfl, hl, hr, hc, hm, hsz, rfl⟩
theorem sized_is {ts : List TypeId} {ds : List (DataW H)} {t e : TypeId} {f0 f1 : Field} {a d1 : DataW H} {len cap : Nat} (h : (DataW.weightsEach P ts ds).all (· ≤ reachBytes) = true) {j : Nat} (ht : ts[j]? = some t) (hd : ds[j]? = some (.agg [a, d1])) (hs : P.underlying t = some (.struct #[f0, f1]))
    (u1 : P.underlying f1.type = some (.slice e)) (hz : SizeOf d1 len cap) : cap * P.bytesOf e ≤ 140737488351232 := by
  rcases hz with ⟨_, _, rfl⟩ | ⟨es, sp, rfl, _, hc⟩
  · omega
  · have hmem : (es.length + sp.length) * P.bytesOf e ∈ DataW.weights P t (.agg [a, .slice es sp]) := by
      simp [DataW.weights, DataW.weightsEach, hs, u1]
    have := of_decide_eq_true (List.all_eq_true.1 h _ (DataW.weights_mem_each ht hd _ hmem))
    rw [hc] at this
    exact this
end
end Go.Proofs.Ytemnhnhpaaoccaa
