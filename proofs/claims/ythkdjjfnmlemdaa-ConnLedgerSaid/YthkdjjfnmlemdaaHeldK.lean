/- A region that draws its order, loads cells and at its end stores into those very cells: a load that every store waits for may be taken first. No program in sight. -/
import Derived.OrdersHeld
import Derived.Deep.RegionHeld
namespace Go.Proofs.Ythkdjjfnmlemdaa

section
variable {P : Program} {ops : Array Oper} {Q : Exit → Act → World → Prop} {md : Region.Mode} {S : World → Prop} {K : List Nat}

/-- S holds, as long as none of K has come up -/
def HeldT (S : World → Prop) (K : List Nat) (listed : Array Bool) (w : World) : Prop := (∀ k ∈ K, listed.getD k true = false) → S w
/-- whatever order is picked; S holds behind each operation, as long as none of K has come up -/
def wpAnyK (P : Program) (md : Region.Mode) (ops : Array Oper) (Q : Exit → Act → World → Prop) (S : World → Prop) (K : List Nat) : Nat → Array Bool → Act → World → Prop
  | 0, listed, a, w => Region.ready md ops listed = [] ∧ Q .normal a w
  | fuel + 1, listed, a, w => (Region.ready md ops listed = [] → Q .normal a w) ∧
    ∀ i ∈ Region.ready md ops listed, wpOp P ops Q i (fun a' w' => HeldT S K (listed.setIfInBounds i true) w' ∧ wpAnyK P md ops Q S K fuel (listed.setIfInBounds i true) a' w') a w
theorem wpAny_of_k : ∀ (fuel : Nat) (listed : Array Bool) (a : Act) (w : World), wpAnyK P md ops Q S K fuel listed a w → wpAny P md ops Q fuel listed a w
  | 0, _, _, _, h => h
  | fuel + 1, _, _, _, h => ⟨h.1, fun i hi => wpOp_mono (fun a' w' h' => wpAny_of_k fuel _ a' w' h'.2) (h.2 i hi)⟩
/-- whatever has come up, all that it waits for has come up -/
def closedB (md : Region.Mode) (ops : Array Oper) (listed : Array Bool) : Bool :=
  (List.range ops.size).all fun j => !listed.getD j false || match ops[j]? with
    | some o => o.after.all fun e => !Region.binds md e || listed.getD e.on false
    | none => true
def Closed (md : Region.Mode) (ops : Array Oper) (listed : Array Bool) : Prop :=
  ∀ j o, ops[j]? = some o → listed.getD j false = true → ∀ e ∈ o.after, Region.binds md e = true → listed.getD e.on false = true
theorem closed_of {listed : Array Bool} (h : closedB md ops listed = true) : Closed md ops listed := fun j o ho hl e he hb => by
  unfold closedB at h
  rw [List.all_eq_true] at h
  have h1 := h j (List.mem_range.2 (Array.getElem?_eq_some_iff.1 ho).1)
  simp only [hl, ho, Bool.not_true, Bool.false_or] at h1
  have h2 := Array.all_eq_true_iff_forall_mem.1 h1 e he
  simpa [hb] using h2
theorem getD_set_self' {listed : Array Bool} {i : Nat} (h : (listed.setIfInBounds i true).getD i false = false) : ¬ i < listed.size := fun hi => by
  simp [hi] at h
theorem Closed.set {listed : Array Bool} {j : Nat} (h : Closed md ops listed) (hj : j ∈ Region.ready md ops listed) : Closed md ops (listed.setIfInBounds j true) := fun i o ho hl e he hb => by
  by_cases hij : i = j
  · subst hij
    obtain ⟨_, o', ho', hall⟩ := mem_ready.1 hj
    rw [ho] at ho'
    injection ho' with ho'
    subst ho'
    exact getD_set_true (hall e he hb)
  · rw [getD_set_ne false (fun e => hij e.symm)] at hl
    exact getD_set_true (h i o ho hl e he hb)
/-- k waits for i, directly or through others -/
def waitsOn (md : Region.Mode) (ops : Array Oper) (i : Nat) : Nat → Nat → Bool
  | 0, _ => false
  | n + 1, k => match ops[k]? with
    | some o => o.after.toList.any fun e => Region.binds md e && (e.on == i || waitsOn md ops i n e.on)
    | none => false
theorem waits_spec {listed : Array Bool} (hc : Closed md ops listed) {i : Nat} : ∀ (n k : Nat), waitsOn md ops i n k = true → (∀ o, ops[k]? = some o → ∀ e ∈ o.after, Region.binds md e = true → listed.getD e.on false = true) → listed.getD i false = true
  | 0, _, h, _ => by cases h
  | n + 1, k, h, hk => by
    unfold waitsOn at h
    cases ho : ops[k]? with
    | none => rw [ho] at h; cases h
    | some o =>
      rw [ho] at h
      obtain ⟨e, he', h1⟩ := List.any_eq_true.1 h
      have he : e ∈ o.after := by simpa using he'
      rw [Bool.and_eq_true, Bool.or_eq_true] at h1
      obtain ⟨hb, h2⟩ := h1
      have hl := hk o ho e he hb
      rcases h2 with h2 | h2
      · rw [← of_decide_eq_true h2]; exact hl
      · exact waits_spec hc n e.on h2 fun o' ho' => hc e.on o' ho' hl
theorem HeldT.set {listed : Array Bool} {w : World} {i : Nat} (h : HeldT S K listed w) (hi : i ∉ K) : HeldT S K (listed.setIfInBounds i true) w := fun hk => h fun k hkk => by
  have := hk k hkk
  rwa [getD_set_ne true (show i ≠ k from fun e => hi (e ▸ hkk))] at this
theorem HeldT.back {listed : Array Bool} {w : World} {i : Nat} (h : HeldT S K (listed.setIfInBounds i true) w) (hi : i ∉ K) : HeldT S K listed w := fun hk => h fun k hkk => by
  rw [getD_set_ne true (show i ≠ k from fun e => hi (e ▸ hkk))]
  exact hk k hkk
theorem not_listed {listed : Array Bool} {i : Nat} (hi0 : listed.getD i true = false) : ¬ listed.getD i false = true := fun e => by
  rcases Nat.lt_or_ge i listed.size with h' | h'
  · simp [h'] at hi0 e; rw [hi0] at e; cases e
  · simp [Array.getElem?_eq_none h'] at e
theorem not_ready {listed : Array Bool} {i : Nat} (h : ¬ listed.getD i true = true) : listed.getD i true = false := by
  cases e : listed.getD i true with
  | false => rfl
  | true => exact absurd e h
/-- while i has not come up, none of K has that waits for i -/
theorem none_listed {listed : Array Bool} {i n : Nat} (hc : Closed md ops listed) (hs : ops.size ≤ listed.size) (hi0 : listed.getD i true = false) (hw : ∀ k ∈ K, waitsOn md ops i n k = true) : ∀ k ∈ K, listed.getD k true = false := fun k hk => not_ready fun e => by
  have hw' := hw k hk
  refine not_listed hi0 (waits_spec hc n k hw' fun o ho => hc k o ho ?_)
  have hlt : k < ops.size := (Array.getElem?_eq_some_iff.1 ho).1
  have : k < listed.size := by omega
  simp [this] at e ⊢
  exact e
theorem wpAnyK_first {i n : Nat} {oi : Oper} {v : Value} (hi : ops[i]? = some oi) (hsel : ∀ (j : Nat) (o : Oper) cs b, ops[j]? = some o → o.op ≠ .select cs b)
    (hQ : ∀ c a w, Q (.panic c) (a.put oi.dst v) w → Q (.panic c) a w) (hw : ∀ k ∈ K, waitsOn md ops i n k = true) (hiK : i ∉ K) :
    ∀ (fuel : Nat) (listed : Array Bool) (a : Act) (w : World),
      (∀ j oj, ops[j]? = some oj → j ≠ i → listed.getD j true = false → (∀ e ∈ oj.after, Region.binds md e = true → e.on ≠ i) → oi.apart ops oj = true) →
      i ∈ Region.ready md ops listed → Closed md ops listed → ops.size ≤ listed.size → YieldsIf P ops S oi v a → S w →
      wpAnyK P md ops Q S K fuel (listed.setIfInBounds i true) (a.put oi.dst v) w → wpAnyK P md ops Q S K (fuel + 1) listed a w := by
  intro fuel
  induction fuel with
  | zero =>
    intro listed a w _ hr _ _ hy hS H
    refine ⟨fun h => (by rw [h] at hr; cases hr), fun j hj => ?_⟩
    by_cases hji : j = i
    · subst hji; exact hy.wpOp hi hS ⟨fun _ => hS, H⟩
    · have := ready_mono hj hji
      rw [H.1] at this
      cases this
  | succ fuel ih =>
    intro listed a w hfree hr hcl hsz hy hS H
    refine ⟨fun h => (by rw [h] at hr; cases hr), fun j hj => ?_⟩
    by_cases hji : j = i
    · subst hji; exact hy.wpOp hi hS ⟨fun _ => hS, H⟩
    · have h1 := H.2 j (ready_mono hj hji)
      obtain ⟨hjun, oj, hoj, hall⟩ := mem_ready.1 hj
      have hi0 := (mem_ready.1 hr).1
      have hnot : ∀ e ∈ oj.after, Region.binds md e = true → e.on ≠ i := fun e he hb heq => not_listed hi0 (heq ▸ hall e he hb)
      have h2 := wpOp_putIf hoj (hfree j oj hoj hji hjun hnot) (fun cs b => hsel i oi cs b hi) (fun cs b => hsel j oj cs b hoj) hQ hy h1
      have hfree' : ∀ k ok, ops[k]? = some ok → k ≠ i → (listed.setIfInBounds j true).getD k true = false →
          (∀ e ∈ ok.after, Region.binds md e = true → e.on ≠ i) → oi.apart ops ok = true := fun k ok hk hki hun hno => by
        refine hfree k ok hk hki ?_ hno
        by_cases hjk : j = k
        · subst hjk; exact hjun
        · rw [getD_set_ne true hjk] at hun; exact hun
      have hcl' := hcl.set hj
      have hsz' : ops.size ≤ (listed.setIfInBounds j true).size := by simpa using hsz
      have hi0' : (listed.setIfInBounds j true).getD i true = false := by rw [getD_set_ne true hji]; exact hi0
      refine wpOp_mono (fun a' w' h3 => ?_) h2
      have hS' : HeldT S K (listed.setIfInBounds j true) w' := by
        have := h3.2.1
        rw [Array.setIfInBounds_comm _ _ (fun e => hji e.symm)] at this
        exact this.back hiK
      refine ⟨hS', ih (listed.setIfInBounds j true) a' w' hfree' (ready_mono hr (Ne.symm hji)) hcl' hsz' h3.1 (hS' (none_listed hcl' hsz' hi0' hw)) ?_⟩
      rw [Array.setIfInBounds_comm _ _ hji]
      exact h3.2.2
/-- take number i first -/
theorem wpAnyK_take (n : Nat) {i : Nat} {oi : Oper} {v : Value} {fuel : Nat} {listed : Array Bool} {a : Act} {w : World} (hi : ops[i]? = some oi)
    (hs : Region.noSelect ops = true) (hf : Region.free md ops listed i = true) (hr : (Region.ready md ops listed).contains i = true) (hc : (closedB md ops listed && decide (ops.size ≤ listed.size)) = true) (hk : ((K.all fun k => waitsOn md ops i n k) && !K.contains i) = true)
    (hQ : ∀ c a w, Q (.panic c) (a.put oi.dst v) w → Q (.panic c) a w) (hy : YieldsIf P ops S oi v a) (hS : S w)
    (h : wpAnyK P md ops Q S K fuel (listed.setIfInBounds i true) (a.put oi.dst v) w) : wpAnyK P md ops Q S K (fuel + 1) listed a w := by
  rw [Bool.and_eq_true] at hc hk
  exact wpAnyK_first hi (Region.noSelect_spec hs) hQ (fun k hk' => List.all_eq_true.1 hk.1 k hk') (by simpa using hk.2) fuel listed a w (Region.free_spec hi hf) (by simpa using hr) (closed_of hc.1) (of_decide_eq_true hc.2) hy hS h
theorem wpAnyK_free' {i : Nat} {oi : Oper} {v : Value} (hi : ops[i]? = some oi) (hsel : ∀ (j : Nat) (o : Oper) cs b, ops[j]? = some o → o.op ≠ .select cs b)
    (hQ : ∀ c a w, Q (.panic c) (a.put oi.dst v) w → Q (.panic c) a w) (hK : i ∉ K) :
    ∀ (fuel : Nat) (listed : Array Bool) (a : Act) (w : World),
      (∀ j oj, ops[j]? = some oj → j ≠ i → listed.getD j true = false → (∀ e ∈ oj.after, Region.binds md e = true → e.on ≠ i) → oi.apart ops oj = true) →
      i ∈ Region.ready md ops listed → YieldsIf P ops (fun _ => True) oi v a → HeldT S K listed w →
      wpAnyK P md ops Q S K fuel (listed.setIfInBounds i true) (a.put oi.dst v) w → wpAnyK P md ops Q S K (fuel + 1) listed a w := by
  intro fuel
  induction fuel with
  | zero =>
    intro listed a w _ hr hy hT H
    refine ⟨fun h => (by rw [h] at hr; cases hr), fun j hj => ?_⟩
    by_cases hji : j = i
    · subst hji; exact hy.wpOp hi trivial ⟨hT.set hK, H⟩
    · have := ready_mono hj hji
      rw [H.1] at this
      cases this
  | succ fuel ih =>
    intro listed a w hfree hr hy hT H
    refine ⟨fun h => (by rw [h] at hr; cases hr), fun j hj => ?_⟩
    by_cases hji : j = i
    · subst hji; exact hy.wpOp hi trivial ⟨hT.set hK, H⟩
    · have h1 := H.2 j (ready_mono hj hji)
      obtain ⟨hjun, oj, hoj, hall⟩ := mem_ready.1 hj
      have hi0 := (mem_ready.1 hr).1
      have hnot : ∀ e ∈ oj.after, Region.binds md e = true → e.on ≠ i := fun e he hb heq => not_listed hi0 (heq ▸ hall e he hb)
      have h2 := wpOp_putIf hoj (hfree j oj hoj hji hjun hnot) (fun cs b => hsel i oi cs b hi) (fun cs b => hsel j oj cs b hoj) hQ hy h1
      have hfree' : ∀ k ok, ops[k]? = some ok → k ≠ i → (listed.setIfInBounds j true).getD k true = false →
          (∀ e ∈ ok.after, Region.binds md e = true → e.on ≠ i) → oi.apart ops ok = true := fun k ok hk hki hun hno => by
        refine hfree k ok hk hki ?_ hno
        by_cases hjk : j = k
        · subst hjk; exact hjun
        · rw [getD_set_ne true hjk] at hun; exact hun
      refine wpOp_mono (fun a' w' h3 => ?_) h2
      have hS' : HeldT S K (listed.setIfInBounds j true) w' := by
        have := h3.2.1
        rw [Array.setIfInBounds_comm _ _ (fun e => hji e.symm)] at this
        exact this.back hK
      refine ⟨hS', ih (listed.setIfInBounds j true) a' w' hfree' (ready_mono hr (Ne.symm hji)) h3.1 hS' ?_⟩
      rw [Array.setIfInBounds_comm _ _ hji]
      exact h3.2.2
/-- take number i first: it yields in whatever world -/
theorem wpAnyK_free {i : Nat} {oi : Oper} {v : Value} {fuel : Nat} {listed : Array Bool} {a : Act} {w : World} (hi : ops[i]? = some oi)
    (hs : Region.noSelect ops = true) (hf : Region.free md ops listed i = true) (hr : (Region.ready md ops listed).contains i = true) (hK : (!K.contains i) = true)
    (hQ : ∀ c a w, Q (.panic c) (a.put oi.dst v) w → Q (.panic c) a w) (hy : YieldsIf P ops (fun _ => True) oi v a) (hT : HeldT S K listed w)
    (h : wpAnyK P md ops Q S K fuel (listed.setIfInBounds i true) (a.put oi.dst v) w) : wpAnyK P md ops Q S K (fuel + 1) listed a w :=
  wpAnyK_free' hi (Region.noSelect_spec hs) hQ (by simpa using hK) fuel listed a w (Region.free_spec hi hf) (by simpa using hr) hy hT h
theorem HeldT.of {listed : Array Bool} {w : World} (h : S w) : HeldT S K listed w := fun _ => h
/-- one of K has come up -/
theorem HeldT.past {listed : Array Bool} {w : World} (h : (K.any fun k => listed.getD k true) = true) : HeldT S K listed w := fun hk => by
  obtain ⟨k, h1, h2⟩ := List.any_eq_true.1 h
  rw [hk k h1] at h2
  cases h2
theorem wpAnyK_done {listed : Array Bool} {a : Act} {w : World} (hr : Region.ready md ops listed = []) (h : Q .normal a w) : ∀ fuel, wpAnyK P md ops Q S K fuel listed a w
  | 0 => ⟨hr, h⟩
  | _ + 1 => ⟨fun _ => h, by rw [hr]; simp⟩
def AllReadyK (P : Program) (md : Region.Mode) (ops : Array Oper) (Q : Exit → Act → World → Prop) (S : World → Prop) (K : List Nat) (fuel : Nat) (listed : Array Bool) (a : Act) (w : World) (rs : List Nat) : Prop :=
  ∀ i ∈ rs, wpOp P ops Q i (fun a' w' => HeldT S K (listed.setIfInBounds i true) w' ∧ wpAnyK P md ops Q S K fuel (listed.setIfInBounds i true) a' w') a w
theorem AllReadyK.nil {fuel : Nat} {listed : Array Bool} {a : Act} {w : World} : AllReadyK P md ops Q S K fuel listed a w [] := fun _ h => by cases h
theorem AllReadyK.cons {fuel : Nat} {listed : Array Bool} {a : Act} {w : World} {i : Nat} {o : Oper} {rs : List Nat} (ho : ops[i]? = some o)
    (h : ∀ K' : Act → World → Prop, Shut (∀ a w, S w → wpAnyK P md ops Q S K fuel (listed.setIfInBounds i true) a w → K' a w) → if Region.wanted o (yielded ops a.tmps) = true then Oper.wp P o a w K' Q else K' (a.put o.dst undef) w)
    (hs : AllReadyK P md ops Q S K fuel listed a w rs) : AllReadyK P md ops Q S K fuel listed a w (i :: rs) := fun j hj => by
  rcases List.mem_cons.1 hj with rfl | hj
  · exact wpOp_step ho (fun K' hK => h K' (fun a w hS hW => hK a w ⟨.of hS, hW⟩))
  · exact hs j hj
/-- an operation of K, or behind one -/
theorem AllReadyK.last {fuel : Nat} {listed : Array Bool} {a : Act} {w : World} {i : Nat} {o : Oper} {rs : List Nat} (hi : (K.any fun k => (listed.setIfInBounds i true).getD k true) = true) (ho : ops[i]? = some o)
    (h : ∀ K' : Act → World → Prop, Shut (∀ a w, wpAnyK P md ops Q S K fuel (listed.setIfInBounds i true) a w → K' a w) → if Region.wanted o (yielded ops a.tmps) = true then Oper.wp P o a w K' Q else K' (a.put o.dst undef) w)
    (hs : AllReadyK P md ops Q S K fuel listed a w rs) : AllReadyK P md ops Q S K fuel listed a w (i :: rs) := fun j hj => by
  rcases List.mem_cons.1 hj with rfl | hj
  · exact wpOp_step ho (fun K' hK => h K' (fun a w hW => hK a w ⟨.past hi, hW⟩))
  · exact hs j hj
theorem wpAnyK_ready {rs : List Nat} {fuel : Nat} {listed : Array Bool} {a : Act} {w : World} (hr : Region.ready md ops listed = rs) (hne : rs ≠ [])
    (h : AllReadyK P md ops Q S K fuel listed a w rs) : wpAnyK P md ops Q S K (fuel + 1) listed a w := ⟨fun h0 => absurd (hr ▸ h0) hne, hr ▸ h⟩
theorem wp_region_k {id : Nat} {a : Act} {w : World} (S : World → Prop) (K : List Nat) (hm : P.follows .mixedOrders = true)
    (h : wpAnyK P .any ops Q S K ops.size (Array.replicate ops.size false) a w.drew) : (Code.region id ops true).wp P Q a w :=
  wp_region_any hm (wpAny_of_k _ _ _ _ h)
end
end Go.Proofs.Ythkdjjfnmlemdaa
