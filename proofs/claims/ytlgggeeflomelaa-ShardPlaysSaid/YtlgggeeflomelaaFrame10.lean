/- How the arguments of a statement are opened, 10: as 8, and the room of each list is within reach. No program in sight. -/
import Derived.Test.YtlgggeeflomelaaFrame8
import Derived.SizedLaws
namespace Go.Proofs.Ytlgggeeflomelaa
open Go.RowKit
open Go.ChangeShapes Go.WideShapes Go.ChangeAt Go.Deep

section
variable {H : Type} {enc : TypeId × Value → H} {P : Program}
theorem pick_at2 {q0 q1 q2 q3 e8 : TypeId} {W : World} {a' : Addr} {i n0 n1 n2 n3 : Nat} {v0 v1 v2 v3 : Value} {y0 y1 y2 y3 : DataW H × List MemPlace}
    (hu0 : P.underlying q0 = some (.int .i64)) (hu1 : P.underlying q1 = some (.int .u8)) (hu2 : P.underlying q2 = some (.slice e8)) (he8 : P.underlying e8 = some (.int .u8)) (hc8 : P.cellsOf e8 = 1) (hu3 : P.underlying q3 = some (.int .i64))
    (c0 : W.cell? (a'.add (i * 4 + 0)) = some v0) (c1 : W.cell? (a'.add (i * 4 + 1)) = some v1) (c2 : W.cell? (a'.add (i * 4 + 2)) = some v2) (c3 : W.cell? (a'.add (i * 4 + 3)) = some v3)
    (t0 : DataW.trod enc P W 0 (fun _ => true) true n0 q0 [v0] = some y0) (t1 : DataW.trod enc P W 0 (fun _ => true) true n1 q1 [v1] = some y1) (t2 : DataW.trod enc P W 0 (fun _ => true) true n2 q2 [v2] = some y2) (t3 : DataW.trod enc P W 0 (fun _ => true) true n3 q3 [v3] = some y3) :
    ∃ r : PickR, PickOk W r ∧ SizeOf y2.1 r.key.length r.cap ∧ ∀ j u, (pickVals r)[j]? = some u → W.cell? (a'.add (i * 4 + j)) = some u := by
  obtain ⟨z0, h0, _, w0⟩ := DataW.trod_int hu0 t0
  obtain ⟨z1, h1, _, w1⟩ := DataW.trod_int hu1 t1
  obtain ⟨z3, h3, _, w3⟩ := DataW.trod_int hu3 t3
  injection h0 with h0 _
  injection h1 with h1 _
  injection h3 with h3 _
  subst h0 h1 h3
  have hsl : ∃ A l c, v2 = .slice A l c := by
    rcases open_slice hu2 t2 with ⟨h, _⟩ | ⟨a, l, c, _, _, _, _, h, _⟩
    · injection h with h _
      exact ⟨_, _, _, h⟩
    · injection h with h _
      exact ⟨_, _, _, h⟩
  obtain ⟨A, l, c, rfl⟩ := hsl
  obtain ⟨xs, hl, hb, hr, hc, hm, hsz⟩ := open_nats (enc := enc) hu2 he8 hc8 rfl (d := y2.1) (p := y2.2) ⟨n2, t2⟩
  have hz1 : 0 ≤ z1 ∧ z1.toNat < 256 := by simp [Lit.wf, IntKind.min, IntKind.max, IntKind.signed, IntKind.bits] at w1; omega
  refine ⟨⟨z0, z1.toNat, A, c, xs, z3⟩, ⟨w0, hz1.2, by simpa [IntKind.bits] using hb, by dsimp only; omega, hm, hr, w3⟩, by dsimp only; rw [hl]; exact hsz, fun j u hu => ?_⟩
  unfold pickVals at hu
  dsimp only at hu
  rw [hl, Int.toNat_of_nonneg hz1.1] at hu
  match j, hu with
  | 0, hu => simp at hu; rw [← hu]; exact c0
  | 1, hu => simp at hu; rw [← hu]; exact c1
  | 2, hu => simp at hu; rw [← hu]; exact c2
  | 3, hu => simp at hu; rw [← hu]; exact c3
  | j + 4, hu => simp at hu
theorem sized_picks {ts : List TypeId} {ds : List (DataW H)} {t : TypeId} {d : DataW H} (h : (DataW.weightsEach P ts ds).all (· ≤ reachBytes) = true) {j : Nat} (ht : ts[j]? = some t) (hd : ds[j]? = some d) : ∀ x ∈ DataW.weights P t d, x ≤ 140737488351232 := fun _ hx => of_decide_eq_true (List.all_eq_true.1 h _ (DataW.weights_mem_each ht hd _ hx))
theorem wall_mem {e : TypeId} {d : DataW H} {x : Nat} (hx : x ∈ DataW.weights P e d) : ∀ (l : List (DataW H)), d ∈ l → x ∈ DataW.weightsAll P e l
  | [], h => by cases h
  | y :: l, h => by
    simp only [DataW.weightsAll, List.mem_append]
    rcases List.mem_cons.1 h with h | h
    · subst h; exact .inl hx
    · exact .inr (wall_mem hx l h)
theorem open_picks2 {t e q0 q1 q2 q3 e8 : TypeId} {fs : Array Field} {W : World} {a : Option Addr} {len cap : Nat} {d : DataW H} {p : List MemPlace} (ht : P.underlying t = some (.slice e)) (he : P.underlying e = some (.struct fs))
    (hone : oneCellFields P fs = true) (hC : P.cellsOf e = fs.size) (hf : fs.toList.map (fun f : Field => f.type) = [q0, q1, q2, q3])
    (hu0 : P.underlying q0 = some (.int .i64)) (hu1 : P.underlying q1 = some (.int .u8)) (hu2 : P.underlying q2 = some (.slice e8)) (he8 : P.underlying e8 = some (.int .u8)) (hc8 : P.cellsOf e8 = 1) (hu3 : P.underlying q3 = some (.int .i64))
    (h : DataW.Trod enc P W 0 (fun _ => true) true t (.slice a len cap) d p) (hwt : ∀ x ∈ DataW.weights P t d, x ≤ 140737488351232) (hb8 : P.bytesOf e8 = 1) :
    ∃ R : List PickR, R.length = len ∧ (∀ r ∈ R, PickOk W r ∧ r.cap ≤ 140737488351232) ∧ Rd W a (R.flatMap pickVals) ∧ len ≤ cap ∧ cap ≤ maxLen ∧ SizeOf d len cap := by
  have hfs : fs.size = 4 := by have := congrArg List.length hf; simpa using this
  have hty : ∀ (j : Nat) (q : TypeId), [q0, q1, q2, q3][j]? = some q → ∃ f : Field, fs[j]? = some f ∧ f.type = q := fun j q hj => by
    have := congrArg (fun l => l[j]?) hf
    simp only [List.getElem?_map, Array.getElem?_toList] at this
    rw [hj] at this
    cases hq : fs[j]? with
    | none => rw [hq] at this; cases this
    | some f => rw [hq] at this; injection this with this; exact ⟨f, rfl, this⟩
  obtain ⟨fuel, hh⟩ := h
  rcases open_slice_fields ht he hone hC hh with ⟨hcs, hx⟩ | ⟨a', l, c, m, D, Pl, hcs, _, hl, hm, hmm, hx, hall⟩
  · simp [Value.cells] at hcs
    obtain ⟨rfl, rfl, rfl⟩ := hcs
    simp only [Prod.mk.injEq] at hx
    exact ⟨[], rfl, fun r hr => by simp at hr, Rd.nil _ _, Nat.le_refl _, Nat.zero_le _, .inl ⟨hx.1, rfl, rfl⟩⟩
  · simp [Value.cells] at hcs
    obtain ⟨rfl, rfl, rfl⟩ := hcs
    simp only [Prod.mk.injEq] at hx
    simp only [if_true] at hmm
    subst hmm
    have hz : ∀ i, ∃ r : PickR, i < len → (PickOk W r ∧ r.cap ≤ 140737488351232) ∧ ∀ j u, (pickVals r)[j]? = some u → W.cell? (a'.add (i * 4 + j)) = some u := fun i => by
      by_cases hi : i < len
      · obtain ⟨ys, n, hDi, _, _, hfj⟩ := hall i (by omega)
        rw [hfs] at hfj
        obtain ⟨f0, g0, rfl⟩ := hty 0 q0 rfl
        obtain ⟨f1, g1, rfl⟩ := hty 1 q1 rfl
        obtain ⟨f2, g2, rfl⟩ := hty 2 q2 rfl
        obtain ⟨f3, g3, rfl⟩ := hty 3 q3 rfl
        obtain ⟨v0, y0, c0, _, t0⟩ := hfj 0 f0 g0
        obtain ⟨v1, y1, c1, _, t1⟩ := hfj 1 f1 g1
        obtain ⟨v2, y2, c2, hy2, t2⟩ := hfj 2 f2 g2
        obtain ⟨v3, y3, c3, _, t3⟩ := hfj 3 f3 g3
        obtain ⟨r, hr1, hr2, hr3⟩ := pick_at2 hu0 hu1 hu2 he8 hc8 hu3 c0 c1 c2 c3 t0 t1 t2 t3
        refine ⟨r, fun _ => ⟨⟨hr1, ?_⟩, hr3⟩⟩
        rcases hr2 with ⟨_, _, hc0⟩ | ⟨es, sp, hy, _, hc0⟩
        · omega
        · have m1 : r.cap ∈ DataW.weights P f2.type y2.1 := by
            rw [hy]
            simp [DataW.weights, hu2, hb8, hc0]
          have m2 : r.cap ∈ DataW.weights P e (D i) := by
            rw [hDi]
            simp only [DataW.weights, he]
            exact DataW.weights_mem_each (j := 2) (t := f2.type) (d := y2.1) (by rw [List.getElem?_map, Array.getElem?_toList, g2]; rfl) (by rw [List.getElem?_map, hy2]; rfl) _ m1
          refine hwt _ ?_
          rw [hx.1]
          simp only [DataW.weights, ht, List.mem_cons, List.mem_append]
          exact .inr (.inl (wall_mem m2 _ (List.mem_map.2 ⟨i, List.mem_range.2 hi, rfl⟩)))
      · exact ⟨⟨0, 0, none, 0, [], 0⟩, fun h => absurd h hi⟩
    obtain ⟨Z, hZ⟩ := Classical.axiomOfChoice hz
    refine ⟨(List.range len).map Z, by simp, fun r hr => ?_, ?_, hl, hm, .inr ⟨_, _, hx.1, by simp, by simp; omega⟩⟩
    · obtain ⟨i, hi, rfl⟩ := List.mem_map.1 hr
      exact (hZ i (List.mem_range.1 hi)).1
    · refine rd_of_cells fun q u hu => ?_
      obtain ⟨i, j, r, rfl, hj, hi, hu⟩ := flat_at pickVals 4 _ (fun r _ => rfl) q u hu
      have hil : i < len := by have := (List.getElem?_eq_some_iff.1 hi).1; simpa using this
      have hr : r = Z i := by
        rw [List.getElem?_map, List.getElem?_range hil] at hi
        injection hi with hi
        exact hi.symm
      subst hr
      exact (hZ i hil).2 j u hu
end
end Go.Proofs.Ytlgggeeflomelaa
