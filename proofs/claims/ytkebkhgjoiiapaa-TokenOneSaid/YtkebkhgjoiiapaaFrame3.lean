/- How the arguments of a statement are opened, 3: a struct of a number, a slice of numbers and a number. No program in sight. -/
import Derived.Test.YtkebkhgjoiiapaaFrame
import Derived.Lib.SmallJoins
import Derived.SizedLaws
namespace Go.Proofs.Ytkebkhgjoiiapaa
open Go.RowKit
open Go.ChangeShapes Go.WideShapes Go.ChangeAt Go.Joins Go.Deep

section
variable {H : Type} {enc : TypeId × Value → H} {P : Program}
theorem open_isi {r : Reach} {b0 : Nat} {W : World} {t e : TypeId} {f0 f1 f2 : Field} {k : IntKind} {v : Value} {d : DataW H} {p : List MemPlace} (hs : P.underlying t = some (.struct #[f0, f1, f2])) (hone : oneCellFields P #[f0, f1, f2] = true) (hC : P.cellsOf t = 3)
    (u0 : P.underlying f0.type = some (.int .i64)) (u1 : P.underlying f1.type = some (.slice e)) (u2 : P.underlying f2.type = some (.int .i64)) (ue : P.underlying e = some (.int k)) (ce : P.cellsOf e = 1) (hk : unsignedB k = true)
    (hv : Value.okWide P W r b0 t v) (h : DataW.Trod enc P W 0 (fun _ => true) true t v d p) :
    ∃ (a s : Int) (A : Option Addr) (len cap : Nat) (xs : List Nat) (d1 : DataW H), v = .agg #[.int .i64 a, .slice A len cap, .int .i64 s] ∧ xs.length = len ∧ (∀ x ∈ xs, x < 2 ^ k.bits) ∧ Rd W A (vals k xs) ∧ len ≤ cap ∧ cap ≤ maxLen ∧ SizeOf d1 len cap ∧
      d = .agg [.lit (.int .i64 a), d1, .lit (.int .i64 s)] ∧ (Lit.int .i64 a).wf = true ∧ (Lit.int .i64 s).wf = true := by
  obtain ⟨v0, v1, v2, y0, y1, y2, n, rfl, rfl, rfl, t0, t1, t2⟩ := open_agg3 hs hone hC hv h
  obtain ⟨a, ha, rfl, wa⟩ := DataW.trod_int u0 t0
  obtain ⟨s, hs', rfl, ws⟩ := DataW.trod_int u2 t2
  injection ha with ha _
  injection hs' with hs' _
  subst ha hs'
  obtain ⟨A, len, cap, rfl⟩ : ∃ A len cap, v1 = .slice A len cap := by
    rcases open_ints u1 ue ce t1 with ⟨hcs, _⟩ | ⟨x, l, c, zs, hcs, _⟩
    · injection hcs with h1 _; exact ⟨_, _, _, h1⟩
    · injection hcs with h1 _; exact ⟨_, _, _, h1⟩
  obtain ⟨xs, hl, hb, hr, hc, hm, hsz⟩ := open_nats u1 ue ce hk (d := y1.1) (p := y1.2) ⟨n, by simpa [Value.cells] using t1⟩
  exact ⟨a, s, A, len, cap, xs, y1.1, rfl, hl, hb, hr, hc, hm, hsz, rfl, wa, ws⟩
theorem sized_isi {ts : List TypeId} {ds : List (DataW H)} {t e : TypeId} {f0 f1 f2 : Field} {a b d1 : DataW H} {len cap : Nat} (h : (DataW.weightsEach P ts ds).all (· ≤ reachBytes) = true) {j : Nat} (ht : ts[j]? = some t) (hd : ds[j]? = some (.agg [a, d1, b])) (hs : P.underlying t = some (.struct #[f0, f1, f2]))
    (u1 : P.underlying f1.type = some (.slice e)) (hz : SizeOf d1 len cap) : cap * P.bytesOf e ≤ 140737488351232 := by
  rcases hz with ⟨_, _, rfl⟩ | ⟨es, sp, rfl, _, hc⟩
  · omega
  · have hmem : (es.length + sp.length) * P.bytesOf e ∈ DataW.weights P t (.agg [a, .slice es sp, b]) := by
      simp [DataW.weights, DataW.weightsEach, hs, u1]
    have := of_decide_eq_true (List.all_eq_true.1 h _ (DataW.weights_mem_each ht hd _ hmem))
    rw [hc] at this
    exact this
end
end Go.Proofs.Ytkebkhgjoiiapaa
