/- spigotlaw12: a counter that is played, from the outside. -/
import Derived.Test.YtfjgpeffhbfihaaHldB
namespace Go.Proofs.Ytfjgpeffhbfihaa
open Go.RowKit

theorem CntIn.base {w0 w1 w : World} {F : Nat → Prop} {gc lim val k : Nat} {S : Nat → CallS} (h : CntIn w1 F gc lim val k S w) (x : Ext w0 w1) : CntIn w0 F gc lim val k S w := by
  obtain ⟨gm, L, h1, h2, h3, h4, h5⟩ := h
  exact ⟨gm, L, h1, h2, x.trans h3, fun i hi => Nat.le_trans x.size (h4 i hi), h5⟩
theorem CntIn.lo {w0 w : World} {F : Nat → Prop} {gc lim val k : Nat} {S : Nat → CallS} (h : CntIn w0 F gc lim val k S w) : ∀ i, F i → w0.heap.size ≤ i := by
  obtain ⟨gm, L, _, _, _, h4, _⟩ := h
  exact h4
def pz (lim : Nat) : Array Value := (.pointer none :: .int .i64 (lim : Int) :: .int .i64 0 :: .int .i64 0 :: (List.replicate 64 (.int .u8 0) ++ (List.replicate 64 (.int .i64 0) ++ List.replicate 64 (.int .i64 0)))).toArray
theorem pz_get (lim : Nat) {i : Nat} (hi : i < 64) : (pz lim)[4 + i]? = some (.int .u8 ((0 : Nat) : Int)) ∧ (pz lim)[68 + i]? = some (.int .i64 ((0 : Nat) : Int)) ∧ (pz lim)[132 + i]? = some (.int .i64 ((0 : Nat) : Int)) := by
  have e : ∀ k, (pz lim)[4 + k]? = (List.replicate 64 (Value.int .u8 0) ++ (List.replicate 64 (.int .i64 0) ++ List.replicate 64 (.int .i64 0)))[k]? := fun k => by
    unfold pz
    rw [List.getElem?_toArray, Nat.add_comm 4 k]
    rfl
  refine ⟨?_, ?_, ?_⟩
  · rw [e, List.getElem?_append_left (by simpa using hi), List.getElem?_replicate, if_pos hi]; rfl
  · rw [show 68 + i = 4 + (64 + i) by omega, e, List.getElem?_append_right (by simp), List.length_replicate, show 64 + i - 64 = i by omega, List.getElem?_append_left (by simpa using hi), List.getElem?_replicate, if_pos hi]; rfl
  · rw [show 132 + i = 4 + (64 + (64 + i)) by omega, e, List.getElem?_append_right (by simp), List.length_replicate, show 64 + (64 + i) - 64 = 64 + i by omega, List.getElem?_append_right (by simp), List.length_replicate, show 64 + i - 64 = i by omega, List.getElem?_replicate, if_pos hi]; rfl
theorem pz_size (lim : Nat) : (pz lim).size = 196 := by
  unfold pz
  rw [List.size_toArray, List.length_cons, List.length_cons, List.length_cons, List.length_cons, List.length_append, List.length_append, List.length_replicate, List.length_replicate]
theorem pz_head (lim : Nat) : (pz lim)[1]? = some (.int .i64 (lim : Int)) ∧ (pz lim)[2]? = some (.int .i64 ((0 : Nat) : Int)) ∧ (pz lim)[3]? = some (.int .i64 ((0 : Nat) : Int)) := by
  unfold pz
  rw [List.getElem?_toArray, List.getElem?_toArray, List.getElem?_toArray]
  exact ⟨rfl, rfl, rfl⟩
theorem play0 {w : World} {gp lim : Nat} (gc : Nat) (h : w.heap[gp]? = some (.cells (pz lim) 92 (0, 0))) : PlAt (w.setCell ⟨gp, 0, none⟩ (.pointer (some ⟨gc, 0, none⟩))) gp gc lim 0 0 (fun _ => 0) (fun _ => 0) (fun _ => 0) := by
  have hz := pz_size lim
  exact ⟨_, blk_set h 0 _, by rw [Array.size_setIfInBounds]; exact hz, pset_self (by omega), (pset_get (by omega)).trans (pz_head lim).1, (pset_get (by omega)).trans (pz_head lim).2.1, (pset_get (by omega)).trans (pz_head lim).2.2, fun i hi => ⟨(pset_get (by omega)).trans (pz_get lim hi).1, (pset_get (by omega)).trans (pz_get lim hi).2.1, (pset_get (by omega)).trans (pz_get lim hi).2.2⟩⟩
theorem holds_new {w0 w : World} {F : Nat → Prop} {gp gc lim : Nat} (h : CntIn w0 F gc lim 0 0 (fun _ => .idle) w) (hF : ¬ F gp) (hp : w.heap[gp]? = some (.cells (pz lim) 92 (0, 0))) (hw : w0.heap.size ≤ gp) :
    HoldsAt w0 gp gc lim 0 0 (fun _ => .idle) (w.setCell ⟨gp, 0, none⟩ (.pointer (some ⟨gc, 0, none⟩))) := by
  have gs : GB w (w.setCell ⟨gp, 0, none⟩ (.pointer (some ⟨gc, 0, none⟩))) (· = gp) := (GB.refl w (· = gp)).set gp _ _ (.inl rfl)
  refine ⟨F, 0, 0, _, _, _, h.far gs hF hp (fun u t e => ?_) hw, play0 gc hp, hF, hw, rfl, Nat.le_refl _, fun i hi => ⟨Nat.le_refl _, Nat.le_refl _⟩, fun i hi => ⟨trivial, trivial⟩⟩
  injection e with e
  have hz := pz_size lim
  rw [e] at hz
  simp at hz
theorem hold_pend (w0 w : World) (gp gc lim val a who : Nat) (S : Nat → CallS) (h : HoldsAt w0 gp gc lim val a S w) (hw : who < 64) (b : Bool) (hb : (b = true ∧ S who ≠ .idle) ∨ (b = false ∧ S who = .idle)) :
    Calls Try.prog 32 #[.pointer (some ⟨gc, 0, none⟩), .int .i64 (who : Int)] w fun e w' => e = .returned (.bool b) ∧ w = w' := by
  obtain ⟨F, ups, downs, O, Sc, Sw, h1, _⟩ := h
  exact cin_pend w0 w F gc lim val a who S h1 hw b hb
theorem hold_value (w0 w : World) (gp gc lim val a : Nat) (S : Nat → CallS) (h : HoldsAt w0 gp gc lim val a S w) :
    Calls Try.prog 34 #[.pointer (some ⟨gc, 0, none⟩)] w fun e w' => e = .returned (.int .i64 (val : Int)) ∧ w = w' := by
  obtain ⟨F, ups, downs, O, Sc, Sw, h1, _⟩ := h
  exact cin_value w0 w F gc lim val a S h1
/-- behind a Start that was taken: what stands until p's three stores -/
theorem hold_start (w0 w : World) (gp gc lim val a who q : Nat) (S : Nat → CallS) (h : HoldsAt w0 gp gc lim val a S w) (hw : who < 64) (hs : S who = .idle) (h1 : 1 ≤ q) (h3 : q ≤ 3) :
    Calls Try.prog 27 #[.pointer (some ⟨gc, 0, none⟩), .int .i64 (who : Int), .int .u8 (q : Int)] w fun e w' => e = .returned (.int .i64 0) ∧ (∃ ups downs O Sc Sw, PlAt w' gp gc lim ups downs O Sc Sw) ∧
      ∀ u, (∀ ups downs O Sc Sw, PlAt w' gp gc lim ups downs O Sc Sw → PlAt u gp gc lim ups downs (updN O who q) (updN Sc who 0) (updN Sw who 0)) → GB w' u (· = gp) → HoldsAt w0 gp gc lim val a (updS S who (startS lim q)) u := by
  obtain ⟨F, ups, downs, O, Sc, Sw, g1, g2, g3, g4, g5, g6, g7, g8⟩ := h
  refine (cin_start w0 w F gc lim val a who q S g1 hw hs h1 h3).mono ?_
  rintro e w' ⟨rfl, F', k1, k2, k3⟩
  have P := g2.blk (k2.block gp g2.lt g3)
  have nF : ¬ F' gp := fun e => by
    rcases k3 gp e with h | h
    · exact g3 h
    · have := g2.lt; omega
  refine ⟨rfl, ⟨ups, downs, O, Sc, Sw, P⟩, fun u hu gb => ?_⟩
  obtain ⟨o, ho, hbig⟩ := P.big
  refine ⟨F', ups, downs, _, _, _, k1.far gb nF ho hbig g4, hu ups downs O Sc Sw P, nF, g4, g5, g6, fun i hi => ?_, fun i hi => ?_⟩
  · by_cases e : i = who
    · subst e; rw [updN_self, updN_self]; exact ⟨Nat.zero_le _, Nat.zero_le _⟩
    · rw [updN_other _ _ e, updN_other _ _ e]; exact g7 i hi
  · by_cases e : i = who
    · subst e
      rw [updN_self, updN_self, updN_self, updS_self]
      refine ⟨opok_start lim q h1 h3, ?_⟩
      rcases (by omega : q = 1 ∨ q = 2 ∨ q = 3) with rfl | rfl | rfl
      · exact (rfl : 0 % 2 = 0)
      · exact (rfl : 0 % 2 = 0)
      · exact trivial
    · rw [updN_other _ _ e, updN_other _ _ e, updN_other _ _ e, updS_other S _ e]; exact g8 i hi
theorem hold_busy (w0 w : World) (gp gc lim val a who q : Nat) (S : Nat → CallS) (h : HoldsAt w0 gp gc lim val a S w) (hw : who < 64) (hs : S who ≠ .idle) (h1 : 1 ≤ q) (h3 : q ≤ 3) :
    Calls Try.prog 27 #[.pointer (some ⟨gc, 0, none⟩), .int .i64 (who : Int), .int .u8 (q : Int)] w fun e w' => e = .returned (.int .i64 9) ∧ HoldsAt w0 gp gc lim val a S w' := by
  have H := Lib.hid h
  obtain ⟨F, ups, downs, O, Sc, Sw, g1, _⟩ := h
  refine (cin_busy w0 w F gc lim val a who q S g1 hw hs h1 h3).mono ?_
  rintro e w' ⟨rfl, _, x⟩
  exact ⟨rfl, H.out.ext x⟩
end Go.Proofs.Ytfjgpeffhbfihaa
