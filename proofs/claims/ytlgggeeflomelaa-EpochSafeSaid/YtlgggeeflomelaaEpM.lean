/- epochs: things and workers as cells. No program in sight. -/
import Derived.Test.YtlgggeeflomelaaEpPlain
import Derived.Test.YtlgggeeflomelaaRecs
import Derived.Laws.MakeOwn
namespace Go.Proofs.Ytlgggeeflomelaa
open Go.RowKit

def tcells (t : Int × Nat) : List Value := [.int .i64 t.1, .int .u64 (t.2 : Int)]
def things (l : List (Int × Nat)) : List Value := l.flatMap tcells
theorem things_len (l : List (Int × Nat)) : (things l).length = l.length * 2 := by
  induction l with
  | nil => rfl
  | cons a l ih =>
    have e : things (a :: l) = tcells a ++ things l := by simp [things]
    rw [e, List.length_append, ih, List.length_cons]
    simp [tcells]
    omega
theorem things_app (l m : List (Int × Nat)) : things (l ++ m) = things l ++ things m := by simp [things]
theorem things_one (a : Int × Nat) : things [a] = tcells a := by simp [things]
theorem things_get {l : List (Int × Nat)} {i : Nat} {a : Int × Nat} (h : l[i]? = some a) (j : Nat) (hj : j < 2) : (things l)[i * 2 + j]? = (tcells a)[j]? :=
  flat_get tcells 2 l (fun _ _ => rfl) i a h j hj
theorem things_cell (l : List (Int × Nat)) : ∀ u ∈ things l, u.oneCell' = true := by
  intro u hu
  obtain ⟨a, _, h⟩ := List.mem_flatMap.1 hu
  simp [tcells] at h
  rcases h with rfl | rfl <;> rfl
/-- a worker's cells -/
structure WkV where
  f : Value
  p : Bool
  h : Value
def WkV.cells (v : WkV) : List Value := [v.f, .bool v.p, v.h]
def wcells (ps : List WkV) : List Value := ps.flatMap WkV.cells
theorem wcells_get {ps : List WkV} {i : Nat} {v : WkV} (h : ps[i]? = some v) (j : Nat) (hj : j < 3) : (wcells ps)[i * 3 + j]? = v.cells[j]? :=
  flat_get WkV.cells 3 ps (fun _ _ => rfl) i v h j hj
theorem wcells_set : ∀ (ps : List WkV) (i : Nat) (v u : WkV) (_ : ps[i]? = some v) (j : Nat) (_ : j < 3) (x : Value) (_ : v.cells.set j x = u.cells), (wcells ps).set (i * 3 + j) x = wcells (ps.set i u)
  | [], i, v, u, h, _, _, _, _ => by simp at h
  | a :: ps, i, v, u, h, j, hj, x, hx => by
    have e : ∀ (b : WkV) (l : List WkV), wcells (b :: l) = b.cells ++ wcells l := fun b l => by simp [wcells]
    cases i with
    | zero =>
      simp at h
      subst h
      rw [e, List.set_cons_zero, e, Nat.zero_mul, Nat.zero_add, List.set_append_left _ _ (by simpa [WkV.cells] using hj), hx]
    | succ i =>
      rw [e, List.set_cons_succ, e, List.set_append_right _ _ (by simp [WkV.cells]; omega), show (i + 1) * 3 + j - a.cells.length = i * 3 + j by simp [WkV.cells]; omega]
      rw [wcells_set ps i v u (by simpa using h) j hj x hx]
theorem wcells_arr {ps : List WkV} {i : Nat} {v u : WkV} (h : ps[i]? = some v) {j : Nat} (hj : j < 3) {x : Value} (hx : v.cells.set j x = u.cells) : (wcells ps).toArray.setIfInBounds (i * 3 + j) x = (wcells (ps.set i u)).toArray := by
  rw [← wcells_set ps i v u h j hj x hx]
  simp
/-- what make lays, elements of more cells -/
theorem made_flat {α : Type} (f : α → List Value) (a : α) (n k : Nat) (hk : (f a).length = k) (hk0 : 0 < k) : madeCells (f a).toArray (n * k) = ((List.replicate n a).flatMap f).toArray := by
  apply Array.ext'
  apply List.ext_getElem?
  intro j
  by_cases hj : j < n * k
  · have hr : j % k < k := Nat.mod_lt _ hk0
    have hi : j / k < n := Nat.div_lt_of_lt_mul (by rw [Nat.mul_comm]; exact hj)
    have e : j = j / k * k + j % k := by rw [Nat.mul_comm]; exact (Nat.div_add_mod j k).symm
    have h := flat_get f k (List.replicate n a) (fun r hr => by rw [(List.mem_replicate.1 hr).2]; exact hk) (j / k) a (by rw [List.getElem?_replicate, if_pos hi]) (j % k) hr
    rw [← e] at h
    show _ = ((List.replicate n a).flatMap f)[j]?
    rw [h]
    simp [madeCells, hj, hk, hr]
  · have h1 : ((List.replicate n a).flatMap f).length = n * k := by simp [List.length_flatMap, hk]
    rw [List.getElem?_eq_none (by simp [size_madeCells]; omega), List.getElem?_eq_none (by simpa [h1] using hj)]
/-- the words of the machine: the epoch, and the pins behind it -/
def WordsOk (n : Nat) (ws : List Nat) (s : ESt) : Prop := ws.length = n + 1 ∧ ws[0]? = some s.ep ∧ ∀ i, i < n → ws[1 + i]? = some (s.pw i)
theorem words_new (n : Nat) : WordsOk n (List.replicate (1 + n) 0) ⟨0, fun _ => 0, fun _ => ⟨.idle, false, []⟩⟩ :=
  ⟨by simp; omega, by rw [List.getElem?_replicate, if_pos (by omega)], fun i hi => by rw [List.getElem?_replicate, if_pos (by omega)]⟩
theorem words_pin {n : Nat} {ws : List Nat} {s : ESt} {who : Nat} (h : WordsOk n ws s) (hw : who < n) (x : Nat) (k : Nat → EWk) : WordsOk n (ws.set (1 + who) x) ⟨s.ep, updG s.pw who x, k⟩ := by
  obtain ⟨h1, h2, h3⟩ := h
  refine ⟨by simpa using h1, by rw [List.getElem?_set_ne (by omega)]; exact h2, fun i hi => ?_⟩
  show _ = some (updG s.pw who x i)
  by_cases e : i = who
  · subst e
    rw [updG_self, List.getElem?_set_self (by omega)]
  · rw [updG_other _ _ e, List.getElem?_set_ne (by omega)]
    exact h3 i hi
theorem words_ep {n : Nat} {ws : List Nat} {s : ESt} (h : WordsOk n ws s) (x : Nat) (k : Nat → EWk) : WordsOk n (ws.set 0 x) ⟨x, s.pw, k⟩ := by
  obtain ⟨h1, h2, h3⟩ := h
  refine ⟨by simpa using h1, by rw [List.getElem?_set_self (by omega)], fun i hi => ?_⟩
  rw [List.getElem?_set_ne (by omega)]
  exact h3 i hi
theorem words_wk {n : Nat} {ws : List Nat} {s : ESt} (h : WordsOk n ws s) (k : Nat → EWk) : WordsOk n ws ⟨s.ep, s.pw, k⟩ := h
end Go.Proofs.Ytlgggeeflomelaa
