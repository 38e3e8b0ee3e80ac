/- epoch: Step, at whatever call is under way; from outside. -/
import Derived.Test.YtlgggeeflomelaaEpK
import Derived.Test.YtlgggeeflomelaaEpRun
namespace Go.Proofs.Ytlgggeeflomelaa
open Go.RowKit

theorem put_put (s : ESt) (who : Nat) (a b : EWk) : (s.put who a).put who b = s.put who b := by
  unfold ESt.put
  congr 1
  funext j
  show (if j = who then b else (if j = who then a else s.wk j)) = if j = who then b else s.wk j
  by_cases e : j = who
  · rw [if_pos e, if_pos e]
  · rw [if_neg e, if_neg e, if_neg e]
theorem put_pw (s : ESt) (who : Nat) (a b : EWk) (f : Nat → Nat) : ({ s.put who a with pw := f } : ESt).put who b = { s.put who b with pw := f } := by
  have := put_put s who a b
  unfold ESt.put at this ⊢
  simp only [ESt.mk.injEq] at this ⊢
  exact ⟨trivial, trivial, this.2.2⟩
theorem run_hv {w : World} {gx gw n who : Nat} {f : Value} (x1 : w.cell? ⟨gx, 1, none⟩ = some (.slice (some ⟨gw, 0, none⟩) n n)) (xf : w.cell? ⟨gw, who * 3, none⟩ = some f) {g : Value} (hg : f = g) :
    ∀ gw2 f2, w.cell? ⟨gx, 1, none⟩ = some (.slice (some ⟨gw2, 0, none⟩) n n) → w.cell? ⟨gw2, who * 3, none⟩ = some f2 → f2 = g := fun gw2 f2 h1 h2 => by
  obtain rfl : gw2 = gw := by
    have e := h1.symm.trans x1
    simp at e
    exact e
  have e := h2.symm.trans xf
  injection e with e
  rw [e, hg]
theorem CloSt.mono {w : World} {C F : Nat → Prop} {gx gm n who k : Nat} {s s' : ESt} {cl : ECall} {d : Bool} {er nu : Int} {xs : List Int} {e : Ending} {w' : World} (h : CloSt w C F gx gm n who k s cl d er nu xs e w') (hs : s = s') : CloSt w C F gx gm n who k s' cl d er nu xs e w' := hs ▸ h
def StepOk (w : World) (C F : Nat → Prop) (gx gm n k : Nat) (r : ESt × ERes) (e : Ending) (w' : World) : Prop := StepSt w C F gx gm n k r.1 r.2.done (r.2.err : Int) (r.2.num : Int) r.2.things e w'
set_option maxHeartbeats 2000000 in
set_option maxRecDepth 100000 in
theorem estep_any (w : World) (C F : Nat → Prop) (gx gm n who K : Nat) (L : List AccE) (s : ESt) (h : EpAt w C F gx gm n L s) (hL : L.length ≤ 100000) (hw : who < n) (hn : n ≤ 64) (hI : EInv n s) (hB : EBd K s) (hK : K ≤ 100000) (hs : (s.wk who).call ≠ .idle) :
    Calls Try.prog 18 #[.pointer (some ⟨gx, 0, none⟩), .int .i64 (who : Int)] w (StepOk w C F gx gm n (L.length + 1) (eStep n s who)) := by
  obtain ⟨gw, f, B, c, x1, _, _, _, xf, _, _, _, pv, _⟩ := h.wk hw
  obtain ⟨_, hcall, hheld⟩ := hI who hw
  have hcall' : ECallX n s (s.wk who) := hcall
  have hep : s.ep ≤ 1000000 := by have := hB.1; omega
  have hlen : (s.wk who).held.length ≤ 1000000 := by have := (hB.2 who).2; omega
  have hheldb : ∀ t ∈ (s.wk who).held, t.2 ≤ 1000000 := fun t ht => by have := hheld t ht; omega
  unfold ECallX at hcall'
  unfold eStep
  cases hc : (s.wk who).call with
  | idle => exact absurd hc hs
  | begun op thing =>
    rw [hc] at pv hcall'
    obtain ⟨o1, o5, _, _⟩ := hcall'
    rcases pv with ⟨rfl, p0, p1, hf, k0, k1⟩ | ⟨h2, p0, p1, p2, p3, hf, k0, k1, k2, k3⟩
    · have := estep_run w C F gx gm n who (L.length + 1) L s ({ s.put who { s.wk who with pinned := false } with pw := updG s.pw who 0 }) .idle _ _ true 0 0 [] h hw (run_hv x1 xf hf) (fun u => rfl)
        fun u x => ebeg1_any u C F gx gm n who L s p0 p1 (h.ext x) hL hw hn (k0.ext x) (k1.ext x)
      rw [put_pw] at this
      have e : ({ s.put who { s.wk who with pinned := false } with pw := updG s.pw who 0 } : ESt).wk who = { s.wk who with pinned := false } := put_self s who _
      rw [e] at this
      show Calls _ _ _ _ (StepOk w C F gx gm n (L.length + 1) (if (2 : Nat) = 1 then _ else if (2 : Nat) = 2 then _ else _))
      rw [if_neg (by decide), if_pos rfl]
      exact this
    · show Calls _ _ _ _ (StepOk w C F gx gm n (L.length + 1) (if op = 1 then _ else if op = 2 then _ else if op = 3 then _ else if op = 4 then _ else _))
      rw [if_neg h2]
      rcases (by omega : op = 1 ∨ op = 3 ∨ op = 4 ∨ op = 5) with rfl | rfl | rfl | rfl
      · rw [if_pos rfl]
        exact estep_run w C F gx gm n who (L.length + 1) L s s (.pinS 0 s.ep) _ _ false 0 0 [] h hw (run_hv x1 xf hf) (fun u => rfl)
          fun u x => ebeg_pin u C F gx gm n who thing L s p0 p1 p2 p3 (h.ext x) hL hw hn (k0.ext x) (k1.ext x) (k2.ext x) (k3.ext x)
      · rw [if_neg (by decide), if_pos rfl]
        have := estep_run w C F gx gm n who (L.length + 1) L s (s.put who { s.wk who with held := (s.wk who).held ++ [(thing, s.ep)] }) .idle _ _ true 0 s.ep [] h hw (run_hv x1 xf hf) (fun u => rfl)
          fun u x => ebeg_ret u C F gx gm n who thing L s p0 p1 p2 p3 (h.ext x) hL hw hn hep hlen (k0.ext x) (k1.ext x) (k2.ext x) (k3.ext x)
        rw [put_put, put_self] at this
        exact this
      · rw [if_neg (by decide), if_neg (by decide), if_pos rfl]
        exact estep_run w C F gx gm n who (L.length + 1) L s s (.look 0 s.ep) _ _ false 0 0 [] h hw (run_hv x1 xf hf) (fun u => rfl)
          fun u x => ebeg_adv u C F gx gm n who thing L s p0 p1 p2 p3 (h.ext x) hL hw hn (k0.ext x) (k1.ext x) (k2.ext x) (k3.ext x)
      · rw [if_neg (by decide), if_neg (by decide), if_neg (by decide)]
        have := estep_run w C F gx gm n who (L.length + 1) L s (s.put who { s.wk who with held := stayOf s.ep (s.wk who).held }) .idle _ _ true 0 (oldOf s.ep (s.wk who).held).length (oldOf s.ep (s.wk who).held) h hw (run_hv x1 xf hf) (fun u => rfl)
          fun u x => ebeg_coll u C F gx gm n who thing L s p0 p1 p2 p3 (h.ext x) hL hw hn hep hlen hheldb (k0.ext x) (k1.ext x) (k2.ext x) (k3.ext x)
        rw [put_put, put_self] at this
        exact this
  | pinS old e =>
    rw [hc] at pv
    have hge : e ≤ s.ep := by
      have hew := (hI who hw).1
      unfold EWord at hew
      rw [hc] at hcall' hew
      rw [if_neg (by rw [hcall']; exact Bool.false_ne_true)] at hew
      exact hew.2
    obtain ⟨p0, p1, p2, p3, hf, k0, k1, k2, k3⟩ := pv
    exact estep_run w C F gx gm n who (L.length + 1) L s { s with pw := if s.pw who = old then updG s.pw who (e + 1) else s.pw } (.pinL e) _ _ false 0 0 [] h hw (run_hv x1 xf hf) (fun u => rfl)
      fun u x => epinS_any u C F gx gm n who old e L s p0 p1 p2 p3 (h.ext x) hL hw hn (by omega) (k0.ext x) (k1.ext x) (k2.ext x) (k3.ext x)
  | pinL e =>
    rw [hc] at pv
    have hge : e ≤ s.ep := by
      have hew := (hI who hw).1
      unfold EWord at hew
      rw [hc] at hcall' hew
      rw [if_neg (by rw [hcall']; exact Bool.false_ne_true)] at hew
      exact hew.2
    obtain ⟨p0, p1, p2, hf, k0, k1, k2⟩ := pv
    show Calls _ _ _ _ (StepOk w C F gx gm n (L.length + 1) (if s.ep = e then _ else _))
    by_cases he : s.ep = e
    · rw [if_pos he]
      have := estep_run w C F gx gm n who (L.length + 1) L s (s.put who { s.wk who with pinned := true }) .idle _ _ true 0 e [] h hw (run_hv x1 xf hf) (fun u => rfl)
        fun u x => (epinL_any u C F gx gm n who e L s p0 p1 p2 (h.ext x) hL hw hn (by omega) hep (k0.ext x) (k1.ext x) (k2.ext x)).mono fun _ _ hh => hh.1 he
      rw [put_put, put_self] at this
      exact this
    · rw [if_neg he]
      exact estep_run w C F gx gm n who (L.length + 1) L s s (.pinS (e + 1) s.ep) _ _ false 0 0 [] h hw (run_hv x1 xf hf) (fun u => rfl)
        fun u x => (epinL_any u C F gx gm n who e L s p0 p1 p2 (h.ext x) hL hw hn (by omega) hep (k0.ext x) (k1.ext x) (k2.ext x)).mono fun _ _ hh => hh.2 he
  | look i e =>
    rw [hc] at pv hcall'
    obtain ⟨hi, hle, _⟩ := hcall'
    obtain ⟨p0, p1, p2, p3, hf, k0, k1, k2, k3⟩ := pv
    show Calls _ _ _ _ (StepOk w C F gx gm n (L.length + 1) (if i = n then _ else if s.pw i ≠ 0 ∧ s.pw i ≠ e + 1 then _ else _))
    by_cases hin : i = n
    · subst hin
      rw [if_pos rfl]
      by_cases he : s.ep = e
      · rw [if_pos he]
        exact estep_run w C F gx gm i who (L.length + 1) L s { s with ep := e + 1 } .idle _ _ true 0 ((e : Int) + 1) [] h hw (run_hv x1 xf hf) (fun u => rfl)
          fun u x => (elook_end u C F gx gm i who e L s p0 p1 p2 p3 (h.ext x) hL hw hn (by omega) (k0.ext x) (k1.ext x) (k2.ext x) (k3.ext x)).mono fun _ _ hh => hh.1 he
      · rw [if_neg he]
        exact estep_run w C F gx gm i who (L.length + 1) L s s .idle _ _ true 0 0 [] h hw (run_hv x1 xf hf) (fun u => rfl)
          fun u x => (elook_end u C F gx gm i who e L s p0 p1 p2 p3 (h.ext x) hL hw hn (by omega) (k0.ext x) (k1.ext x) (k2.ext x) (k3.ext x)).mono fun _ _ hh => hh.2 he
    · rw [if_neg hin]
      have hpi : s.pw i ≤ 1000000 := by have := (hB.2 i).1; omega
      by_cases hq : s.pw i ≠ 0 ∧ s.pw i ≠ e + 1
      · rw [if_pos hq]
        exact estep_run w C F gx gm n who (L.length + 1) L s s .idle _ _ true 9 0 [] h hw (run_hv x1 xf hf) (fun u => rfl)
          fun u x => (elook_at u C F gx gm n who i e L s p0 p1 p2 p3 (h.ext x) hL hw hn (by omega) (by omega) hpi (k0.ext x) (k1.ext x) (k2.ext x) (k3.ext x)).mono fun _ _ hh => hh.1 hq
      · rw [if_neg hq]
        exact estep_run w C F gx gm n who (L.length + 1) L s s (.look (i + 1) e) _ _ false 0 0 [] h hw (run_hv x1 xf hf) (fun u => rfl)
          fun u x => (elook_at u C F gx gm n who i e L s p0 p1 p2 p3 (h.ext x) hL hw hn (by omega) (by omega) hpi (k0.ext x) (k1.ext x) (k2.ext x) (k3.ext x)).mono fun _ _ hh => hh.2 hq
end Go.Proofs.Ytlgggeeflomelaa
