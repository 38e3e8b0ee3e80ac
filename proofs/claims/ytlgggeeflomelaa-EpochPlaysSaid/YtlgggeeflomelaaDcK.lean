/- spigotref13: DocStep is dStep; bounds. -/
import Derived.Test.YtlgggeeflomelaaDcJ
namespace Go.Proofs.Ytlgggeeflomelaa
open Go.RowKit

/-- after so many calls -/
def DBd (k : Nat) (d : DSt) : Prop := d.ep ≤ k ∧ ∀ w, (d.wk w).place ≤ k ∧ (d.wk w).e ≤ k ∧ (d.wk w).held.length ≤ k ∧ ∀ t ∈ (d.wk w).held, t.2 ≤ k
def DStepD (w : World) (F : Nat → Prop) (gk n : Nat) (p : DSt × ERes) : Ending → World → Prop := DStepR w F gk n p.1 p.2.done (p.2.err : Int) (p.2.num : Int) p.2.things 0
theorem dstep_any (w : World) (F : Nat → Prop) (gk n who k : Nat) (d : DSt) (h : DAt w F gk n d) (hw : who < n) (hn : n ≤ 64) (hb : DBd k d) (hk : k ≤ 100000) (ho : (d.wk who).op = 1 ∨ (d.wk who).op = 2 ∨ (d.wk who).op = 3 ∨ (d.wk who).op = 4 ∨ (d.wk who).op = 5) (hpl : (d.wk who).op = 4 → (d.wk who).place ≤ n + 1) :
    Calls Try.prog 25 #[.pointer (some ⟨gk + 1, 0, none⟩), .int .i64 (who : Int)] w (DStepD w F gk n (dStep n d who)) := by
  obtain ⟨b0, b⟩ := hb
  obtain ⟨b1, b2, b3, b4⟩ := b who
  rcases ho with ho | ho | ho | ho | ho
  · by_cases h0 : ((d.wk who).place + 1) % 2 = 0
    · have hs : dStep n d who = (d.put who { d.wk who with place := (d.wk who).place + 1, p := (d.wk who).e + 1 }, ⟨false, 0, 0, []⟩) := by
        unfold dStep
        simp only [ho]
        rw [if_pos trivial, if_pos h0]
      rw [hs]
      exact dstep_pin w F gk n who d _ false 0 0 [] h hw ho (fun u hu => dpin_even u F gk n who d hu hw (by omega) (by omega) h0)
    · by_cases h1 : 1 < (d.wk who).place + 1 ∧ d.ep = (d.wk who).e
      · have hs : dStep n d who = (d.put who { d.wk who with place := (d.wk who).place + 1, pinned := true, op := 0 }, ⟨true, 0, (d.wk who).e, []⟩) := by
          unfold dStep
          simp only [ho]
          rw [if_pos trivial, if_neg h0, if_pos h1]
        rw [hs]
        exact dstep_pin w F gk n who d _ true 0 _ [] h hw ho (fun u hu => dpin_hit u F gk n who d hu hw (by omega) (by omega) h1)
      · have hs : dStep n d who = (d.put who { d.wk who with place := (d.wk who).place + 1, e := d.ep }, ⟨false, 0, 0, []⟩) := by
          unfold dStep
          simp only [ho]
          rw [if_pos trivial, if_neg h0, if_neg h1]
        rw [hs]
        exact dstep_pin w F gk n who d _ false 0 0 [] h hw ho (fun u hu => dpin_miss u F gk n who d hu hw (by omega) (by omega) h1)
  · have hs : dStep n d who = (d.put who { d.wk who with p := 0, pinned := false, op := 0 }, ⟨true, 0, 0, []⟩) := by
      unfold dStep
      simp only [ho]
      rw [if_neg (by decide), if_pos trivial]
    rw [hs]
    exact dstep_unpin w F gk n who d h hw ho
  · have hs : dStep n d who = (d.put who { d.wk who with held := (d.wk who).held ++ [((d.wk who).thing, d.ep)], op := 0 }, ⟨true, 0, d.ep, []⟩) := by
      unfold dStep
      simp only [ho]
      rw [if_neg (by decide), if_neg (by decide), if_pos trivial]
    rw [hs]
    exact dstep_ret w F gk n who d h hw ho (by omega)
  · have hp := hpl ho
    rcases (show (d.wk who).place = 0 ∨ ∃ i, (d.wk who).place = i + 1 ∧ (i < n ∨ i = n) from (Nat.eq_zero_or_pos _).imp id (fun h0 => ⟨(d.wk who).place - 1, by omega, by omega⟩)) with hp0 | ⟨i, hpi, hi | rfl⟩
    · have hs : dStep n d who = (d.put who { d.wk who with place := 1, e := d.ep }, ⟨false, 0, 0, []⟩) := by
        unfold dStep
        simp only [ho]
        rw [if_neg (by decide), if_neg (by decide), if_neg (by decide), if_pos trivial, if_pos hp0]
      rw [hs]
      exact dstep_adv w F gk n who d _ false 0 0 [] h hw ho (fun u hu => dadv_first u F gk n who d hu hw hn hp0 (by omega) (by omega))
    · by_cases hq : (d.wk i).p ≠ 0 ∧ (d.wk i).p ≠ (d.wk who).e + 1
      · have hs : dStep n d who = (d.put who { d.wk who with place := i + 1 + 1, op := 0 }, ⟨true, 9, 0, []⟩) := by
          unfold dStep
          simp only [ho, hpi]
          rw [if_neg (by decide), if_neg (by decide), if_neg (by decide), if_pos trivial, if_neg (by omega), if_pos (by omega), Nat.add_sub_cancel, if_pos hq]
        rw [hs]
        exact dstep_adv w F gk n who d _ true 9 0 [] h hw ho (fun u hu => dadv_busy u F gk n who i d hu hw hn hpi (by omega) (by omega) hi hq)
      · have hs : dStep n d who = (d.put who { d.wk who with place := i + 1 + 1 }, ⟨false, 0, 0, []⟩) := by
          unfold dStep
          simp only [ho, hpi]
          rw [if_neg (by decide), if_neg (by decide), if_neg (by decide), if_pos trivial, if_neg (by omega), if_pos (by omega), Nat.add_sub_cancel, if_neg hq]
        rw [hs]
        refine dstep_adv w F gk n who d _ false 0 0 [] h hw ho (fun u hu => ?_)
        by_cases h0 : (d.wk i).p = 0
        · exact dadv_zero u F gk n who i d hu hw hn hpi (by omega) (by omega) hi h0
        · exact dadv_mine u F gk n who i d hu hw hn hpi (by omega) (by omega) hi (by omega)
    · by_cases hq : d.ep = (d.wk who).e
      · have hs : dStep i d who = ({ d.put who { d.wk who with place := i + 1 + 1, op := 0 } with ep := d.ep + 1 }, ⟨true, 0, d.ep + 1, []⟩) := by
          unfold dStep
          simp only [ho, hpi]
          rw [if_neg (by decide), if_neg (by decide), if_neg (by decide), if_pos trivial, if_neg (by omega), if_neg (by omega), if_neg (fun h => h hq)]
        rw [hs]
        exact dstep_adv w F gk i who d _ true 0 _ [] h hw ho (fun u hu => dadv_went u F gk i who d hu hw hn hpi (by omega) (by omega) hq)
      · have hs : dStep i d who = (d.put who { d.wk who with place := i + 1 + 1, op := 0 }, ⟨true, 0, 0, []⟩) := by
          unfold dStep
          simp only [ho, hpi]
          rw [if_neg (by decide), if_neg (by decide), if_neg (by decide), if_pos trivial, if_neg (by omega), if_neg (by omega), if_pos hq]
        rw [hs]
        exact dstep_adv w F gk i who d _ true 0 0 [] h hw ho (fun u hu => dadv_moved u F gk i who d hu hw hn hpi (by omega) (by omega) hq)
  · have hs : dStep n d who = (d.put who { d.wk who with held := stayOf d.ep (d.wk who).held, op := 0 }, ⟨true, 0, (oldOf d.ep (d.wk who).held).length, oldOf d.ep (d.wk who).held⟩) := by
      unfold dStep
      simp only [ho]
      rw [if_neg (by decide), if_neg (by decide), if_neg (by decide), if_neg (by decide), if_pos trivial]
    rw [hs]
    exact dstep_coll w F gk n who d _ true 0 _ _ h hw ho (fun u hu => dcollect_any u F gk n who d hu hw (by omega) (by omega) (fun t ht => by have := b4 t ht; omega))
theorem dbd_put {k : Nat} {d : DSt} {who : Nat} {y : DWk} (h : DBd k d) (h1 : y.place ≤ k + 1) (h2 : y.e ≤ k + 1) (h3 : y.held.length ≤ k + 1) (h4 : ∀ t ∈ y.held, t.2 ≤ k + 1) : DBd (k + 1) (d.put who y) := by
  refine ⟨Nat.le_succ_of_le h.1, fun w => ?_⟩
  by_cases e : w = who
  · subst e
    rw [dput_self]
    exact ⟨h1, h2, h3, h4⟩
  · rw [dput_other d y e]
    obtain ⟨a, b, c, f⟩ := h.2 w
    exact ⟨by omega, by omega, by omega, fun t ht => by have := f t ht; omega⟩
theorem dbd_more {k : Nat} {d : DSt} (h : DBd k d) : DBd (k + 1) d := by
  refine ⟨Nat.le_succ_of_le h.1, fun w => ?_⟩
  obtain ⟨a, b, c, f⟩ := h.2 w
  exact ⟨by omega, by omega, by omega, fun t ht => by have := f t ht; omega⟩
theorem dbd_ep {k x : Nat} {d : DSt} (h : DBd k d) (hx : x ≤ k) : DBd k { d with ep := x } := ⟨hx, h.2⟩
theorem dbd_step {k n who : Nat} {d : DSt} (h : DBd k d) : DBd (k + 1) (dStep n d who).1 := by
  have h0 := h.1
  obtain ⟨a, b, c, f⟩ := h.2 who
  have f' : ∀ t ∈ (d.wk who).held, t.2 ≤ k + 1 := fun t ht => Nat.le_succ_of_le (f t ht)
  unfold dStep
  dsimp only
  split
  · split
    · exact dbd_put h (by dsimp only; omega) (by dsimp only; omega) (by dsimp only; omega) f'
    · split
      · exact dbd_put h (by dsimp only; omega) (by dsimp only; omega) (by dsimp only; omega) f'
      · exact dbd_put h (by dsimp only; omega) (by dsimp only; omega) (by dsimp only; omega) f'
  · split
    · exact dbd_put h (by dsimp only; omega) (by dsimp only; omega) (by dsimp only; omega) f'
    · split
      · refine dbd_put h (by dsimp only; omega) (by dsimp only; omega) (by show List.length (_ ++ _) ≤ _; rw [List.length_append]; simp; omega) (fun t ht => ?_)
        rcases List.mem_append.1 ht with ht | ht
        · exact f' t ht
        · rw [List.mem_singleton.1 ht]
          exact Nat.le_succ_of_le h0
      · split
        · split
          · exact dbd_put h (by dsimp only; omega) (by dsimp only; omega) (by dsimp only; omega) f'
          · split
            · split
              · exact dbd_put h (by dsimp only; omega) (by dsimp only; omega) (by dsimp only; omega) f'
              · exact dbd_put h (by dsimp only; omega) (by dsimp only; omega) (by dsimp only; omega) f'
            · split
              · exact dbd_put h (by dsimp only; omega) (by dsimp only; omega) (by dsimp only; omega) f'
              · exact dbd_ep (dbd_put h (by dsimp only; omega) (by dsimp only; omega) (by dsimp only; omega) f') (by omega)
        · split
          · refine dbd_put h (by dsimp only; omega) (by dsimp only; omega) ?_ (fun t ht => f' t (List.mem_filter.1 ht).1)
            have := List.length_filter_le (fun t => !isOld d.ep t) (d.wk who).held
            show (stayOf _ _).length ≤ _
            unfold stayOf
            omega
          · exact dbd_more h
end Go.Proofs.Ytlgggeeflomelaa
