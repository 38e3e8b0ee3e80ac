/- How the arguments of a statement are opened, 9: a struct of a number, a byte, a slice of bytes and a number. No program in sight. -/
import Derived.Test.YtlgggeeflomelaaFrame
import Derived.Lib.SmallJoins
import Derived.SizedLaws
namespace Go.Proofs.Ytlgggeeflomelaa
open Go.RowKit
open Go.ChangeShapes Go.WideShapes Go.ChangeAt Go.Joins Go.Deep

section
variable {H : Type} {enc : TypeId × Value → H} {P : Program}
theorem open_pick {r : Reach} {b0 : Nat} {W : World} {t e : TypeId} {f0 f1 f2 f3 : Field} {k : IntKind} {v : Value} {d : DataW H} {p : List MemPlace} (hs : P.underlying t = some (.struct #[f0, f1, f2, f3])) (hone : oneCellFields P #[f0, f1, f2, f3] = true) (hC : P.cellsOf t = 4)
    (u0 : P.underlying f0.type = some (.int .i64)) (u1 : P.underlying f1.type = some (.int .u8)) (u2 : P.underlying f2.type = some (.slice e)) (u3 : P.underlying f3.type = some (.int .i64)) (ue : P.underlying e = some (.int k)) (ce : P.cellsOf e = 1) (hk : unsignedB k = true)
    (hv : Value.okWide P W r b0 t v) (h : DataW.Trod enc P W 0 (fun _ => true) true t v d p) :
    ∃ (o : Nat) (a s : Int) (A : Option Addr) (len cap : Nat) (xs : List Nat) (d1 : DataW H), v = .agg #[.int .i64 a, .int .u8 (o : Int), .slice A len cap, .int .i64 s] ∧ xs.length = len ∧ (∀ x ∈ xs, x < 2 ^ k.bits) ∧ Rd W A (vals k xs) ∧ len ≤ cap ∧ cap ≤ maxLen ∧ SizeOf d1 len cap ∧
      d = .agg [.lit (.int .i64 a), .lit (.int .u8 (o : Int)), d1, .lit (.int .i64 s)] ∧ o < 256 ∧ (Lit.int .i64 a).wf = true ∧ (Lit.int .i64 s).wf = true := by
  obtain ⟨v0, v1, v2, v3, y0, y1, y2, y3, n, rfl, rfl, rfl, t0, t1, t2, t3⟩ := open_agg4 hs hone hC hv h
  obtain ⟨o, h0, rfl, wo⟩ := DataW.trod_int u1 t1
  obtain ⟨a, ha, rfl, wa⟩ := DataW.trod_int u0 t0
  obtain ⟨s, hs', rfl, ws⟩ := DataW.trod_int u3 t3
  injection h0 with h0 _
  injection ha with ha _
  injection hs' with hs' _
  subst h0 ha hs'
  obtain ⟨O, rfl, hO⟩ := nat_of (k := .u8) rfl wo
  obtain ⟨A, len, cap, rfl⟩ : ∃ A len cap, v2 = .slice A len cap := by
    rcases open_ints u2 ue ce t2 with ⟨hcs, _⟩ | ⟨x, l, c, zs, hcs, _⟩
    · injection hcs with h1 _; exact ⟨_, _, _, h1⟩
    · injection hcs with h1 _; exact ⟨_, _, _, h1⟩
  obtain ⟨xs, hl, hb, hr, hc, hm, hsz⟩ := open_nats u2 ue ce hk (d := y2.1) (p := y2.2) ⟨n, by simpa [Value.cells] using t2⟩
  exact ⟨O, a, s, A, len, cap, xs, y2.1, rfl, hl, hb, hr, hc, hm, hsz, rfl, by simpa [IntKind.bits] using hO, wa, ws⟩
theorem sized_pick {ts : List TypeId} {ds : List (DataW H)} {t e : TypeId} {f0 f1 f2 f3 : Field} {a b c d1 : DataW H} {len cap : Nat} (h : (DataW.weightsEach P ts ds).all (· ≤ reachBytes) = true) {j : Nat} (ht : ts[j]? = some t) (hd : ds[j]? = some (.agg [a, b, d1, c])) (hs : P.underlying t = some (.struct #[f0, f1, f2, f3]))
    (u2 : P.underlying f2.type = some (.slice e)) (hz : SizeOf d1 len cap) : cap * P.bytesOf e ≤ 140737488351232 := by
  rcases hz with ⟨_, _, rfl⟩ | ⟨es, sp, rfl, _, hc⟩
  · omega
  · have hmem : (es.length + sp.length) * P.bytesOf e ∈ DataW.weights P t (.agg [a, b, .slice es sp, c]) := by
      simp [DataW.weights, DataW.weightsEach, hs, u2]
    have := of_decide_eq_true (List.all_eq_true.1 h _ (DataW.weights_mem_each ht hd _ hmem))
    rw [hc] at this
    exact this
end
end Go.Proofs.Ytlgggeeflomelaa
