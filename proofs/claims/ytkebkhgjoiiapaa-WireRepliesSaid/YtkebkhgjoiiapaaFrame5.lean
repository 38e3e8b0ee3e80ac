/- How the arguments of a statement are opened, 5: a struct of a number, a bool and four numbers. No program in sight. -/
import Derived.Test.YtkebkhgjoiiapaaFrame
import Derived.Lib.SmallJoins
namespace Go.Proofs.Ytkebkhgjoiiapaa
open Go.RowKit
open Go.ChangeShapes Go.WideShapes Go.ChangeAt Go.Joins Go.Deep

section
variable {H : Type} {enc : TypeId × Value → H} {P : Program}
theorem open_reply {r : Reach} {b0 : Nat} {W : World} {t : TypeId} {f0 f1 f2 f3 f4 f5 : Field} {v : Value} {d : DataW H} {p : List MemPlace} (hs : P.underlying t = some (.struct #[f0, f1, f2, f3, f4, f5])) (hone : oneCellFields P #[f0, f1, f2, f3, f4, f5] = true) (hC : P.cellsOf t = 6)
    (u0 : P.underlying f0.type = some (.int .i64)) (u1 : P.underlying f1.type = some .bool) (u2 : P.underlying f2.type = some (.int .i64)) (u3 : P.underlying f3.type = some (.int .i64)) (u4 : P.underlying f4.type = some (.int .i64)) (u5 : P.underlying f5.type = some (.int .i64))
    (hv : Value.okWide P W r b0 t v) (h : DataW.Trod enc P W 0 (fun _ => true) true t v d p) :
    ∃ (e : Int) (g : Bool) (l a s n : Int), v = .agg #[.int .i64 e, .bool g, .int .i64 l, .int .i64 a, .int .i64 s, .int .i64 n] := by
  obtain ⟨cs, rfl, hsz⟩ := okWide_struct hs hv
  obtain ⟨l⟩ := cs
  match l, hsz.trans hC with
  | [c0, c1, c2, c3, c4, c5], _ =>
    obtain ⟨fuel, hf⟩ := h
    obtain ⟨xs, n, _, hx, _, hlen, hg⟩ := DataW.trod_struct hs hf
    obtain ⟨o0, k0⟩ := hone_of hone 0 f0 rfl
    obtain ⟨o1, k1⟩ := hone_of hone 1 f1 rfl
    obtain ⟨o2, k2⟩ := hone_of hone 2 f2 rfl
    obtain ⟨o3, k3⟩ := hone_of hone 3 f3 rfl
    obtain ⟨o4, k4⟩ := hone_of hone 4 f4 rfl
    obtain ⟨o5, k5⟩ := hone_of hone 5 f5 rfl
    match xs, hlen with
    | [y0, y1, y2, y3, y4, y5], _ =>
      have t0 : DataW.trod enc P W 0 (fun _ => true) true n f0.type [c0] = some y0 := by simpa [Value.cells, o0, k0] using hg 0 f0 rfl
      have t1 : DataW.trod enc P W 0 (fun _ => true) true n f1.type [c1] = some y1 := by simpa [Value.cells, o1, k1] using hg 1 f1 rfl
      have t2 : DataW.trod enc P W 0 (fun _ => true) true n f2.type [c2] = some y2 := by simpa [Value.cells, o2, k2] using hg 2 f2 rfl
      have t3 : DataW.trod enc P W 0 (fun _ => true) true n f3.type [c3] = some y3 := by simpa [Value.cells, o3, k3] using hg 3 f3 rfl
      have t4 : DataW.trod enc P W 0 (fun _ => true) true n f4.type [c4] = some y4 := by simpa [Value.cells, o4, k4] using hg 4 f4 rfl
      have t5 : DataW.trod enc P W 0 (fun _ => true) true n f5.type [c5] = some y5 := by simpa [Value.cells, o5, k5] using hg 5 f5 rfl
      obtain ⟨_, h0, _, _⟩ := DataW.trod_int u0 t0
      obtain ⟨_, h1, _⟩ := DataW.trod_bool u1 t1
      obtain ⟨_, h2, _, _⟩ := DataW.trod_int u2 t2
      obtain ⟨_, h3, _, _⟩ := DataW.trod_int u3 t3
      obtain ⟨_, h4, _, _⟩ := DataW.trod_int u4 t4
      obtain ⟨_, h5, _, _⟩ := DataW.trod_int u5 t5
      injection h0 with h0 _; injection h1 with h1 _; injection h2 with h2 _; injection h3 with h3 _; injection h4 with h4 _; injection h5 with h5 _
      subst h0 h1 h2 h3 h4 h5
      exact ⟨_, _, _, _, _, _, rfl⟩
end
end Go.Proofs.Ytkebkhgjoiiapaa
