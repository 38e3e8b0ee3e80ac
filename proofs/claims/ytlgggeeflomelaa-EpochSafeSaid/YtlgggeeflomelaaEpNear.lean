/- epochs in plain Lean: a step of a worker, its op and its pin. -/
import Derived.Test.YtlgggeeflomelaaEpAlone
namespace Go.Proofs.Ytlgggeeflomelaa

def opOf : ECall → Nat
  | .idle => 0
  | .begun op _ => op
  | .pinS _ _ => 1
  | .pinL _ => 1
  | .look _ _ => 4
theorem step_pw {n who w : Nat} {s : ESt} (h : w ≠ who) : (eStep n s who).1.pw w = s.pw w := by
  unfold eStep
  split
  · rfl
  · split
    · rfl
    · split
      · exact updG_other _ _ h
      · split
        · rfl
        · split
          · rfl
          · rfl
  · show (if _ then updG s.pw who _ else s.pw) w = _
    split
    · exact updG_other _ _ h
    · rfl
  · split
    · rfl
    · rfl
  · split
    · split
      · rfl
      · rfl
    · split
      · rfl
      · rfl
/-- a step of a call: a pin stays, but for an Unpin; a Pin that returns is told; the call stays that call -/
theorem near_step {n who : Nat} {s : ESt} (hI : EInv n s) (hw : who < n) (hs : (s.wk who).call ≠ .idle) :
    (opOf (s.wk who).call ≠ 2 → (s.wk who).pinned = true → ((eStep n s who).1.wk who).pinned = true ∧ (eStep n s who).1.pw who = s.pw who) ∧
    ((eStep n s who).2.done = true → opOf (s.wk who).call = 1 → ((eStep n s who).1.wk who).pinned = true ∧ (eStep n s who).1.pw who = (eStep n s who).2.num + 1) ∧
    (((eStep n s who).1.wk who).call ≠ .idle → opOf ((eStep n s who).1.wk who).call = opOf (s.wk who).call) ∧
    ((eStep n s who).2.done = true ↔ ((eStep n s who).1.wk who).call = .idle) := by
  have hC : ECallX n s (s.wk who) := (hI who hw).2.1
  have hE := (hI who hw).1
  unfold ECallX at hC
  unfold EWord at hE
  generalize hr : eStep n s who = r
  unfold eStep at hr
  cases hc : (s.wk who).call with
  | idle => exact absurd hc hs
  | begun op th =>
    rw [hc] at hC hr
    dsimp only at hr
    obtain ⟨o1, o5, _⟩ := hC
    rcases (by omega : op = 1 ∨ op = 2 ∨ op = 3 ∨ op = 4 ∨ op = 5) with rfl | rfl | rfl | rfl | rfl
    · rw [if_pos rfl] at hr
      subst hr
      have e : ((s.put who { s.wk who with call := .pinS 0 s.ep }).wk who) = { s.wk who with call := .pinS 0 s.ep } := put_self s who _
      refine ⟨fun _ hp => ⟨by show ((s.put who _).wk who).pinned = _; rw [e]; exact hp, rfl⟩, (fun h => by cases h), (fun _ => by show opOf ((s.put who _).wk who).call = _; rw [e]; rfl), ⟨(fun h => by cases h), fun h => ?_⟩⟩
      have h' : ((s.put who { s.wk who with call := .pinS 0 s.ep }).wk who).call = .idle := h
      rw [e] at h'
      cases h'
    · rw [if_neg (by decide), if_pos rfl] at hr
      subst hr
      have e : ((s.put who ⟨.idle, false, (s.wk who).held⟩).wk who) = ⟨.idle, false, (s.wk who).held⟩ := put_self s who _
      exact ⟨fun h => absurd rfl h, fun _ h => (by cases h), fun h => absurd (by show ((s.put who _).wk who).call = _; rw [e]) h, ⟨(fun _ => by show ((s.put who _).wk who).call = _; rw [e]), fun _ => rfl⟩⟩
    · rw [if_neg (by decide), if_neg (by decide), if_pos rfl] at hr
      subst hr
      have e := put_self s who { s.wk who with call := .idle, held := (s.wk who).held ++ [(th, s.ep)] }
      exact ⟨fun _ hp => ⟨by show ((s.put who _).wk who).pinned = _; rw [e]; exact hp, rfl⟩, fun _ h => (by cases h), fun h => absurd (by show ((s.put who _).wk who).call = _; rw [e]) h, ⟨(fun _ => by show ((s.put who _).wk who).call = _; rw [e]), fun _ => rfl⟩⟩
    · rw [if_neg (by decide), if_neg (by decide), if_neg (by decide), if_pos rfl] at hr
      subst hr
      have e : ((s.put who { s.wk who with call := .look 0 s.ep }).wk who) = { s.wk who with call := .look 0 s.ep } := put_self s who _
      refine ⟨fun _ hp => ⟨by show ((s.put who _).wk who).pinned = _; rw [e]; exact hp, rfl⟩, (fun h => by cases h), (fun _ => by show opOf ((s.put who _).wk who).call = _; rw [e]; rfl), ⟨(fun h => by cases h), fun h => ?_⟩⟩
      have h' : ((s.put who { s.wk who with call := .look 0 s.ep }).wk who).call = .idle := h
      rw [e] at h'
      cases h'
    · rw [if_neg (by decide), if_neg (by decide), if_neg (by decide), if_neg (by decide)] at hr
      subst hr
      have e := put_self s who { s.wk who with call := .idle, held := stayOf s.ep (s.wk who).held }
      exact ⟨fun _ hp => ⟨by show ((s.put who _).wk who).pinned = _; rw [e]; exact hp, rfl⟩, fun _ h => (by cases h), fun h => absurd (by show ((s.put who _).wk who).call = _; rw [e]) h, ⟨(fun _ => by show ((s.put who _).wk who).call = _; rw [e]), fun _ => rfl⟩⟩
  | pinS old ee =>
    rw [hc] at hC hr
    dsimp only at hr
    have hnp : (s.wk who).pinned = false := hC
    subst hr
    have e := put_self s who { s.wk who with call := .pinL ee }
    refine ⟨(fun _ hp => by rw [hnp] at hp; cases hp), (fun h => by cases h), (fun _ => by show opOf ((s.put who _).wk who).call = _; rw [e]; rfl), ⟨(fun h => by cases h), fun h => ?_⟩⟩
    have h' : ((s.put who { s.wk who with call := .pinL ee }).wk who).call = .idle := h
    rw [e] at h'
    cases h'
  | pinL ee =>
    rw [hc] at hC hr
    dsimp only at hr
    have hnp : (s.wk who).pinned = false := hC
    rw [if_neg (pinned_false hnp), hc] at hE
    by_cases he : s.ep = ee
    · rw [if_pos he] at hr
      subst hr
      have e := put_self s who { s.wk who with call := .idle, pinned := true }
      exact ⟨fun _ hp => (by rw [hnp] at hp; cases hp), fun _ _ => ⟨by show ((s.put who _).wk who).pinned = _; rw [e], hE.1⟩, fun h => absurd (by show ((s.put who _).wk who).call = _; rw [e]) h, ⟨(fun _ => by show ((s.put who _).wk who).call = _; rw [e]), fun _ => rfl⟩⟩
    · rw [if_neg he] at hr
      subst hr
      have e := put_self s who { s.wk who with call := .pinS (ee + 1) s.ep }
      refine ⟨(fun _ hp => by rw [hnp] at hp; cases hp), (fun h => by cases h), (fun _ => by show opOf ((s.put who _).wk who).call = _; rw [e]; rfl), ⟨(fun h => by cases h), fun h => ?_⟩⟩
      have h' : ((s.put who { s.wk who with call := .pinS (ee + 1) s.ep }).wk who).call = .idle := h
      rw [e] at h'
      cases h'
  | look i ee =>
    rw [hc] at hr
    dsimp only at hr
    have idl : ∀ (f : Nat), (let q : ESt := { s.put who { s.wk who with call := .idle } with ep := f }; ((s.wk who).pinned = true → (q.wk who).pinned = true ∧ q.pw who = s.pw who) ∧ (q.wk who).call = .idle) := fun f => by
      have e := put_self s who { s.wk who with call := .idle }
      exact ⟨fun hp => ⟨by show ((s.put who _).wk who).pinned = _; rw [e]; exact hp, rfl⟩, by show ((s.put who _).wk who).call = _; rw [e]⟩
    by_cases hi : i = n
    · rw [if_pos hi] at hr
      by_cases he : s.ep = ee
      · rw [if_pos he] at hr
        subst hr
        obtain ⟨a, b⟩ := idl (ee + 1)
        exact ⟨fun _ hp => a hp, fun _ h => (by cases h), fun h => absurd b h, ⟨fun _ => b, fun _ => rfl⟩⟩
      · rw [if_neg he] at hr
        subst hr
        obtain ⟨a, b⟩ := idl s.ep
        exact ⟨fun _ hp => a hp, fun _ h => (by cases h), fun h => absurd b h, ⟨fun _ => b, fun _ => rfl⟩⟩
    · rw [if_neg hi] at hr
      by_cases hb : s.pw i ≠ 0 ∧ s.pw i ≠ ee + 1
      · rw [if_pos hb] at hr
        subst hr
        obtain ⟨a, b⟩ := idl s.ep
        exact ⟨fun _ hp => a hp, fun _ h => (by cases h), fun h => absurd b h, ⟨fun _ => b, fun _ => rfl⟩⟩
      · rw [if_neg hb] at hr
        subst hr
        have e := put_self s who { s.wk who with call := .look (i + 1) ee }
        refine ⟨fun _ hp => ⟨by show ((s.put who _).wk who).pinned = _; rw [e]; exact hp, rfl⟩, (fun h => by cases h), (fun _ => by show opOf ((s.put who _).wk who).call = _; rw [e]; rfl), ⟨(fun h => by cases h), fun h => ?_⟩⟩
        have h' : ((s.put who { s.wk who with call := .look (i + 1) ee }).wk who).call = .idle := h
        rw [e] at h'
        cases h'
/-- what EpochNear's reader knows -/
def NearR (s : ESt) (os : List Nat) (ps : List Int) : Prop :=
  os.length = 4 ∧ ps.length = 4 ∧ ∀ d, d < 4 → ((s.wk d).call ≠ .idle → os.getD d 0 = opOf (s.wk d).call) ∧ (ps.getD d 0 = 0 ∨ ((s.wk d).pinned = true ∧ ps.getD d 0 = (s.pw d : Int)))
theorem getD_set_self {α : Type} {l : List α} {i : Nat} {x d : α} (h : i < l.length) : (l.set i x).getD i d = x := by simp [h]
theorem getD_set_ne' {α : Type} {l : List α} {i j : Nat} {x d : α} (h : j ≠ i) : (l.set i x).getD j d = l.getD j d := by
  simp [List.getElem?_set_ne (fun e => h e.symm)]
theorem near_begin {s : ESt} {os : List Nat} {ps : List Int} {d op : Nat} {th : Int} (h : NearR s os ps) (hd : d < 4) : NearR (s.put d { s.wk d with call := .begun op th }) (os.set d op) ps := by
  obtain ⟨h1, h2, h3⟩ := h
  refine ⟨by simpa using h1, h2, fun j hj => ?_⟩
  by_cases e : j = d
  · subst e
    rw [put_self, getD_set_self (by omega)]
    exact ⟨fun _ => rfl, (h3 j hj).2⟩
  · rw [put_other s _ e, getD_set_ne' e]
    exact h3 j hj
/-- an Unpin begins: its pin counts no more -/
theorem near_zero {s : ESt} {os : List Nat} {ps : List Int} {d : Nat} (h : NearR s os ps) : NearR s os (ps.set d 0) := by
  obtain ⟨h1, h2, h3⟩ := h
  refine ⟨h1, by simpa using h2, fun j hj => ⟨(h3 j hj).1, ?_⟩⟩
  by_cases e : j = d
  · subst e
    exact .inl (getD_set_self (by omega))
  · rw [getD_set_ne' e]
    exact (h3 j hj).2
theorem near_go {s : ESt} {os : List Nat} {ps : List Int} {d : Nat} (h : NearR s os ps) (hI : EInv 4 s) (hd : d < 4) (hs : (s.wk d).call ≠ .idle) (hz : opOf (s.wk d).call = 2 → ps.getD d 0 = 0) : NearR (eStep 4 s d).1 os ps := by
  obtain ⟨n1, n2, n3, n4⟩ := near_step hI hd hs
  obtain ⟨h1, h2, h3⟩ := h
  refine ⟨h1, h2, fun j hj => ?_⟩
  by_cases e : j = d
  · subst e
    refine ⟨fun hb => (n3 hb).symm ▸ (h3 j hj).1 hs, ?_⟩
    rcases (h3 j hj).2 with hp | ⟨hp, hq⟩
    · exact .inl hp
    · by_cases ho : opOf (s.wk j).call = 2
      · exact .inl (hz ho)
      · obtain ⟨a, b⟩ := n1 ho hp
        exact .inr ⟨a, by rw [b]; exact hq⟩
  · rw [step_other e, step_pw e]
    exact h3 j hj
theorem near_done {s : ESt} {os : List Nat} {ps : List Int} {d : Nat} (h : NearR (eStep 4 s d).1 os ps) (hI : EInv 4 s) (hd : d < 4) (hs : (s.wk d).call ≠ .idle) (ho : opOf (s.wk d).call = 1) (hdn : (eStep 4 s d).2.done = true) : NearR (eStep 4 s d).1 os (ps.set d ((eStep 4 s d).2.num + 1 : Int)) := by
  obtain ⟨n1, n2, n3, n4⟩ := near_step hI hd hs
  obtain ⟨h1, h2, h3⟩ := h
  refine ⟨h1, by simpa using h2, fun j hj => ⟨(h3 j hj).1, ?_⟩⟩
  by_cases e : j = d
  · subst e
    obtain ⟨a, b⟩ := n2 hdn ho
    rw [getD_set_self (by omega)]
    exact .inr ⟨a, by rw [b]; simp⟩
  · rw [getD_set_ne' e]
    exact (h3 j hj).2
theorem near_num {s : ESt} {os : List Nat} {ps : List Int} {d nu k : Nat} (h : NearR s os (ps.set d ((nu : Int) + 1))) (hd : d < 4) (hB : EBd k s) : (nu : Int) ≤ k := by
  obtain ⟨_, h2, h3⟩ := h
  have hl : ps.length = 4 := by simpa using h2
  rcases (h3 d hd).2 with hp | ⟨_, hp⟩
  · rw [getD_set_self (by omega)] at hp
    omega
  · rw [getD_set_self (by omega)] at hp
    have := (hB.2 d).1
    omega
/-- the epoch is near each pin -/
theorem near_ok {s : ESt} {os : List Nat} {ps : List Int} {d : Nat} (h : NearR s os ps) (hI : EInv 4 s) (hd : d < 4) : ps.getD d 0 = 0 ∨ (0 < ps.getD d 0 ∧ ps.getD d 0 - 1 ≤ (s.ep : Int) ∧ (s.ep : Int) ≤ ps.getD d 0) := by
  rcases (h.2.2 d hd).2 with hp | ⟨hp, hq⟩
  · exact .inl hp
  · obtain ⟨pe, q1, q2, q3⟩ := eword_pin (hI d hd).1 hp
    exact .inr ⟨by omega, by omega, by omega⟩
end Go.Proofs.Ytlgggeeflomelaa
