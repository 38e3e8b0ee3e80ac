/- Semaphores as lists: plain. -/
import Derived.Test.YtlgggeeflomelaaBase2
namespace Go.Proofs.Ytlgggeeflomelaa
open Go.RowKit

/-- the numbers of a list as int64 -/
def ivals (xs : List Int) : List Value := xs.map (Value.int .i64)
theorem ivals_get {xs : List Int} {j : Nat} (h : j < xs.length) : (ivals xs)[j]? = some (.int .i64 (xs.getD j 0)) := by
  simp [ivals, h]
theorem ivals_len (xs : List Int) : (ivals xs).length = xs.length := by simp [ivals]
theorem ivals_append (xs ys : List Int) : ivals (xs ++ ys) = ivals xs ++ ivals ys := by simp [ivals]
theorem ivals_take (xs : List Int) (k : Nat) : ivals (xs.take k) = (ivals xs).take k := by simp [ivals, List.map_take]
theorem ivals_drop (xs : List Int) (k : Nat) : ivals (xs.drop k) = (ivals xs).drop k := by simp [ivals, List.map_drop]
theorem ivals_one (xs : List Int) : ∀ u ∈ ivals xs, u.oneCell' = true := by
  intro u hu
  obtain ⟨_, _, rfl⟩ := List.mem_map.1 hu
  rfl
theorem Rd.atI {w : World} {A : Option Addr} {xs : List Int} {j : Nat} (h : Rd w A (ivals xs)) (hx : j < xs.length) :
    ∃ b off, A = some ⟨b, off, none⟩ ∧ b < w.heap.size ∧ w.cell? ⟨b, off + j, none⟩ = some (.int .i64 (xs.getD j 0)) := by
  obtain ⟨b, off, hA, hc⟩ := h (by intro e; have := ivals_get hx; rw [e] at this; simp at this)
  have := hc j _ (ivals_get hx)
  exact ⟨b, off, hA, World.block_lt_of_cell? w _ this, this⟩

theorem getD_lt {xs : List Int} {j : Nat} (h : j < xs.length) : xs[j]? = some (xs.getD j 0) := by simp [h]
theorem mem_getD {xs : List Int} {z : Int} : z ∈ xs ↔ ∃ j, j < xs.length ∧ xs.getD j 0 = z := by
  constructor
  · intro h
    obtain ⟨j, hj, e⟩ := List.getElem_of_mem h
    exact ⟨j, hj, by simp [hj, e]⟩
  · rintro ⟨j, hj, rfl⟩
    have := getD_lt hj
    exact List.mem_of_getElem? this
theorem take_succI {xs : List Int} {k : Nat} (h : k < xs.length) : xs.take (k + 1) = xs.take k ++ [xs.getD k 0] := take_succ_of (getD_lt h)

/-- the number at a place is right -/
def okAt (xs : List Int) (j : Nat) : Prop := 1 ≤ xs.getD j 0 ∧ xs.getD j 0 ≤ 4611686018427387903 ∧ (0 < j → xs.getD (j - 1) 0 < xs.getD j 0)
/-- a list of serials in order -/
def GoodL (xs : List Int) : Prop := ∀ j, j < xs.length → okAt xs j
/-- a semaphore in form -/
def Form (p : Int) (xs : List Int) : Prop := 1 ≤ p ∧ p ≤ 64 ∧ (xs.length : Int) ≤ p ∧ GoodL xs
def Ser (n : Int) : Prop := 1 ≤ n ∧ n ≤ 4611686018427387903
instance (n : Int) : Decidable (Ser n) := inferInstanceAs (Decidable (1 ≤ n ∧ n ≤ 4611686018427387903))
theorem good_lt {xs : List Int} (h : GoodL xs) : ∀ j i, i < j → j < xs.length → xs.getD i 0 < xs.getD j 0 := by
  intro j
  induction j with
  | zero => intro i hi; omega
  | succ j ih =>
    intro i hi hj
    have h1 := (h (j + 1) hj).2.2 (by omega)
    rw [Nat.add_sub_cancel] at h1
    by_cases hij : i = j
    · rw [hij]; exact h1
    · have := ih i (by omega) (by omega); omega
theorem good_pw {xs : List Int} (h : GoodL xs) : xs.Pairwise (· < ·) := by
  rw [List.pairwise_iff_getElem]
  intro i j hi hj hij
  have := good_lt h j i hij hj
  simpa [hi, hj] using this
theorem good_mem {xs : List Int} (h : GoodL xs) : ∀ z ∈ xs, Ser z := by
  intro z hz
  obtain ⟨j, hj, rfl⟩ := mem_getD.1 hz
  exact ⟨(h j hj).1, (h j hj).2.1⟩
theorem good_of {xs : List Int} (h : xs.Pairwise (· < ·)) (hm : ∀ z ∈ xs, Ser z) : GoodL xs := by
  intro j hj
  have h1 := hm (xs.getD j 0) (mem_getD.2 ⟨j, hj, rfl⟩)
  refine ⟨h1.1, h1.2, fun h0 => ?_⟩
  rw [List.pairwise_iff_getElem] at h
  have := h (j - 1) j (by omega) hj (by omega)
  have hj' : j - 1 < xs.length := by omega
  simpa [hj, hj'] using this
theorem good_iff {xs : List Int} : GoodL xs ↔ xs.Pairwise (· < ·) ∧ ∀ z ∈ xs, Ser z := ⟨fun h => ⟨good_pw h, good_mem h⟩, fun h => good_of h.1 h.2⟩
theorem pw_ext : ∀ (xs ys : List Int), xs.Pairwise (· < ·) → ys.Pairwise (· < ·) → (∀ z, z ∈ xs ↔ z ∈ ys) → xs = ys
  | [], [], _, _, _ => rfl
  | [], b :: ys, _, _, h => by have := (h b).2 (by simp); simp at this
  | a :: xs, [], _, _, h => by have := (h a).1 (by simp); simp at this
  | a :: xs, b :: ys, h1, h2, h => by
    rw [List.pairwise_cons] at h1 h2
    have hab : a = b := by
      have k1 := (h a).1 (by simp)
      have k2 := (h b).2 (by simp)
      simp only [List.mem_cons] at k1 k2
      rcases k1 with k1 | k1
      · exact k1
      · rcases k2 with k2 | k2
        · exact k2.symm
        · have := h1.1 b k2; have := h2.1 a k1; omega
    subst hab
    rw [pw_ext xs ys h1.2 h2.2 fun z => ?_]
    constructor
    · intro hz
      have := (h z).1 (by simp [hz])
      simp only [List.mem_cons] at this
      rcases this with rfl | k
      · have := h1.1 z hz; omega
      · exact k
    · intro hz
      have := (h z).2 (by simp [hz])
      simp only [List.mem_cons] at this
      rcases this with rfl | k
      · have := h2.1 z hz; omega
      · exact k

/-- the place of a number in a list in order -/
def At (xs : List Int) (t : Int) (k : Nat) : Prop := k ≤ xs.length ∧ (∀ j, j < k → xs.getD j 0 < t) ∧ ∀ j, k ≤ j → j < xs.length → t ≤ xs.getD j 0
theorem at_some {xs : List Int} (h : GoodL xs) (t : Int) : ∃ k, At xs t k := by
  have : ∀ m, m ≤ xs.length → ∃ k, k ≤ m ∧ (∀ j, j < k → xs.getD j 0 < t) ∧ ∀ j, k ≤ j → j < m → t ≤ xs.getD j 0 := by
    intro m
    induction m with
    | zero => intro _; exact ⟨0, Nat.le_refl _, fun j hj => by omega, fun j _ hj => by omega⟩
    | succ m ih =>
      intro hm
      obtain ⟨k, k1, k2, k3⟩ := ih (by omega)
      by_cases hk : k < m
      · refine ⟨k, by omega, k2, fun j hj hjm => ?_⟩
        by_cases e : j = m
        · subst e
          have := k3 k (Nat.le_refl _) hk
          have := good_lt h j k hk (by omega)
          omega
        · exact k3 j hj (by omega)
      · obtain rfl : k = m := by omega
        by_cases ht : xs.getD k 0 < t
        · refine ⟨k + 1, Nat.le_refl _, fun j hj => ?_, fun j h1 h2 => by omega⟩
          by_cases e : j = k
          · rw [e]; exact ht
          · exact k2 j (by omega)
        · refine ⟨k, by omega, k2, fun j h1 h2 => ?_⟩
          obtain rfl : j = k := by omega
          omega
  obtain ⟨k, k1, k2, k3⟩ := this xs.length (Nat.le_refl _)
  exact ⟨k, k1, k2, k3⟩
theorem at_mem {xs : List Int} {t : Int} {k : Nat} (h : At xs t k) (hg : GoodL xs) : t ∈ xs ↔ (k < xs.length ∧ xs.getD k 0 = t) := by
  obtain ⟨h1, h2, h3⟩ := h
  constructor
  · intro hm
    obtain ⟨j, hj, e⟩ := mem_getD.1 hm
    have hkj : k ≤ j := by
      apply Nat.le_of_not_lt
      intro hlt
      have := h2 j hlt
      omega
    refine ⟨by omega, ?_⟩
    by_cases e' : k = j
    · rw [e', e]
    · have k1 := good_lt hg j k (by omega) hj
      have k2 := h3 k (Nat.le_refl _) (by omega)
      omega
  · rintro ⟨h4, h5⟩
    exact mem_getD.2 ⟨k, h4, h5⟩
/-- a number put in its place; a place struck -/
def insL (xs : List Int) (k : Nat) (t : Int) : List Int := xs.take k ++ t :: xs.drop k
def delL (xs : List Int) (k : Nat) : List Int := xs.take k ++ xs.drop (k + 1)
theorem insL_len {xs : List Int} {k : Nat} (t : Int) (h : k ≤ xs.length) : (insL xs k t).length = xs.length + 1 := by
  simp [insL]; omega
theorem delL_len {xs : List Int} {k : Nat} (h : k < xs.length) : (delL xs k).length = xs.length - 1 := by
  simp [delL]; omega
theorem mem_insL {xs : List Int} {k : Nat} {t z : Int} : z ∈ insL xs k t ↔ z = t ∨ z ∈ xs := by
  conv => rhs; rw [← List.take_append_drop k xs]
  simp only [insL, List.mem_append, List.mem_cons]
  constructor
  · rintro (h | h | h)
    · exact .inr (.inl h)
    · exact .inl h
    · exact .inr (.inr h)
  · rintro (h | h | h)
    · exact .inr (.inl h)
    · exact .inl h
    · exact .inr (.inr h)
theorem at_lt {xs : List Int} {t : Int} {k : Nat} (h : At xs t k) : ∀ z ∈ xs.take k, z < t := by
  intro z hz
  obtain ⟨j, hj, e⟩ := List.getElem_of_mem hz
  simp only [List.length_take] at hj
  have := h.2.1 j (by omega)
  have hj' : j < xs.length := by omega
  simp [hj'] at this
  simp at e
  omega
theorem at_ge {xs : List Int} {t : Int} {k : Nat} (h : At xs t k) : ∀ z ∈ xs.drop k, t ≤ z := by
  intro z hz
  obtain ⟨j, hj, e⟩ := List.getElem_of_mem hz
  simp only [List.length_drop] at hj
  have := h.2.2 (k + j) (by omega) (by omega)
  have hj' : k + j < xs.length := by omega
  simp [hj'] at this
  simp at e
  omega
theorem ins_good {xs : List Int} {t : Int} {k : Nat} (h : At xs t k) (hg : GoodL xs) (hn : t ∉ xs) (hs : Ser t) : GoodL (insL xs k t) := by
  have hp := good_pw hg
  rw [← List.take_append_drop k xs, List.pairwise_append] at hp
  refine good_of ?_ fun z hz => ?_
  · unfold insL
    rw [List.pairwise_append, List.pairwise_cons]
    refine ⟨hp.1, ⟨fun z hz => ?_, hp.2.1⟩, fun a ha b hb => ?_⟩
    · have h1 := at_ge h z hz
      have : z ≠ t := by rintro rfl; exact hn (List.mem_of_mem_drop hz)
      omega
    · have h1 := at_lt h a ha
      simp only [List.mem_cons] at hb
      rcases hb with rfl | hb
      · exact h1
      · have := at_ge h b hb; omega
  · rcases mem_insL.1 hz with rfl | hz
    · exact hs
    · exact good_mem hg z hz
theorem del_good {xs : List Int} (k : Nat) (hg : GoodL xs) : GoodL (delL xs k) := by
  have hp := good_pw hg
  have hsub : List.Sublist (delL xs k) xs := by
    conv => rhs; rw [← List.take_append_drop k xs]
    unfold delL
    refine List.Sublist.append (List.Sublist.refl _) ?_
    rw [← List.drop_drop]
    exact List.drop_sublist 1 _
  exact good_of (hp.sublist hsub) fun z hz => good_mem hg z (hsub.subset hz)
theorem del_ins {xs : List Int} {k : Nat} {t : Int} (h : k ≤ xs.length) : delL (insL xs k t) k = xs := by
  have h1 : (xs.take k).length = k := by simp; omega
  unfold delL insL
  rw [List.take_left' h1]
  have h2 : xs.take k ++ t :: xs.drop k = (xs.take k ++ [t]) ++ xs.drop k := by simp
  rw [h2, List.drop_left' (by simp; omega), List.take_append_drop]
theorem at_ins {xs : List Int} {t : Int} {k : Nat} (h : At xs t k) : At (insL xs k t) t k := by
  obtain ⟨h1, h2, h3⟩ := h
  have hl : (xs.take k).length = k := by simp; omega
  refine ⟨by rw [insL_len t h1]; omega, fun j hj => ?_, fun j hj hjl => ?_⟩
  · have : (insL xs k t).getD j 0 = xs.getD j 0 := by
      simp only [insL, List.getD_eq_getElem?_getD]
      rw [List.getElem?_append_left (by omega), List.getElem?_take]
      simp [hj]
    rw [this]; exact h2 j hj
  · rw [insL_len t h1] at hjl
    by_cases e : j = k
    · have : (insL xs k t).getD j 0 = t := by
        simp only [insL, List.getD_eq_getElem?_getD]
        rw [List.getElem?_append_right (by omega), hl, e]
        simp
      omega
    · have : (insL xs k t).getD j 0 = xs.getD (j - 1) 0 := by
        simp only [insL, List.getD_eq_getElem?_getD]
        rw [List.getElem?_append_right (by omega), hl]
        obtain ⟨i, rfl⟩ : ∃ i, j = k + i + 1 := ⟨j - k - 1, by omega⟩
        rw [show k + i + 1 - k = i + 1 by omega, List.getElem?_cons_succ, List.getElem?_drop]
        rfl
      rw [this]
      exact h3 (j - 1) (by omega) (by omega)
theorem del_filter {xs : List Int} {t : Int} {k : Nat} (hg : GoodL xs) (hk : k < xs.length) (he : xs.getD k 0 = t) : delL xs k = xs.filter (· != t) := by
  have hp := good_pw hg
  have e : xs = xs.take k ++ t :: xs.drop (k + 1) := by
    conv => lhs; rw [← List.take_append_drop k xs]
    rw [List.drop_eq_getElem_cons hk]
    simp [hk] at he
    rw [he]
  conv => rhs; rw [e]
  rw [e, List.pairwise_append, List.pairwise_cons] at hp
  have f1 : (xs.take k).filter (· != t) = xs.take k := List.filter_eq_self.2 fun z hz => by
    have := hp.2.2 z hz t (by simp)
    simp; omega
  have f2 : (xs.drop (k + 1)).filter (· != t) = xs.drop (k + 1) := List.filter_eq_self.2 fun z hz => by
    have := hp.2.1.1 z hz
    simp; omega
  rw [List.filter_append, List.filter_cons, f1, f2]
  simp [delL]
theorem ins_ins {xs : List Int} {x y : Int} {a b c d : Nat} (hg : GoodL xs) (hx : Ser x) (hy : Ser y) (ha : At xs x a) (hb : At (insL xs a x) y b) (hc : At xs y c) (hd : At (insL xs c y) x d) (hxn : x ∉ xs) (hyn : y ∉ insL xs a x) :
    insL (insL xs a x) b y = insL (insL xs c y) d x := by
  have hyx : y ≠ x ∧ y ∉ xs := by
    rw [mem_insL] at hyn
    exact ⟨fun h => hyn (.inl h), fun h => hyn (.inr h)⟩
  have g1 := ins_good ha hg hxn hx
  have g2 := ins_good hc hg hyx.2 hy
  have hxn' : x ∉ insL xs c y := by
    rw [mem_insL]
    rintro (h | h)
    · exact hyx.1 h.symm
    · exact hxn h
  have g3 := ins_good hb g1 hyn hy
  have g4 := ins_good hd g2 hxn' hx
  refine pw_ext _ _ (good_pw g3) (good_pw g4) fun z => ?_
  simp only [mem_insL]
  constructor
  · rintro (h | h | h)
    · exact .inr (.inl h)
    · exact .inl h
    · exact .inr (.inr h)
  · rintro (h | h | h)
    · exact .inr (.inl h)
    · exact .inl h
    · exact .inr (.inr h)
end Go.Proofs.Ytlgggeeflomelaa
