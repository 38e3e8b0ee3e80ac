/- epoch: from outside; a call that is stepped alone (the statements' run). -/
import Derived.Test.YtlgggeeflomelaaEpL
namespace Go.Proofs.Ytlgggeeflomelaa
open Go.RowKit

/-- Epochs that this call made, of n workers, behind at most k accesses; F: all its blocks -/
def EpIn (w0 : World) (F : Nat → Prop) (gx n k : Nat) (s : ESt) (w : World) : Prop :=
  ∃ C gm L, EpAt w C F gx gm n L s ∧ L.length ≤ k ∧ Ext w0 w ∧ (∀ i, F i → w0.heap.size ≤ i) ∧ EInv n s ∧ EBd k s ∧ ESorted s ∧ n ≤ 64
theorem EpIn.ext {w0 w w' : World} {F : Nat → Prop} {gx n k : Nat} {s : ESt} (h : EpIn w0 F gx n k s w) (x : Ext w w') : EpIn w0 F gx n k s w' := by
  obtain ⟨C, gm, L, h1, h2, h3, h4⟩ := h
  exact ⟨C, gm, L, h1.ext x, h2, h3.trans x, h4⟩
theorem EpIn.gb {w0 w w' : World} {F S : Nat → Prop} {gx n k : Nat} {s : ESt} (h : EpIn w0 F gx n k s w) (g : GB w w' S) (hs : ∀ i, F i → ¬ S i) (hn : ∀ i, S i → w0.heap.size ≤ i) : EpIn w0 F gx n k s w' := by
  obtain ⟨C, gm, L, h1, h2, h3, h4⟩ := h
  exact ⟨C, gm, L, h1.gb g hs, h2, g.to_ext h3 hn, h4⟩
theorem EpIn.out {w0 w : World} {F : Nat → Prop} {gx n k : Nat} {s : ESt} (h : EpIn w0 F gx n k s w) : Ext w0 w := by
  obtain ⟨C, gm, L, h1, h2, h3, h4⟩ := h
  exact h3
theorem EpIn.lt {w0 w : World} {F : Nat → Prop} {gx n k : Nat} {s : ESt} (h : EpIn w0 F gx n k s w) : ∀ i, F i → i < w.heap.size := by
  obtain ⟨C, gm, L, h1, _⟩ := h
  exact h1.lt
theorem EpIn.ge {w0 w : World} {F : Nat → Prop} {gx n k : Nat} {s : ESt} (h : EpIn w0 F gx n k s w) : ∀ i, F i → w0.heap.size ≤ i := by
  obtain ⟨C, gm, L, h1, h2, h3, h4, _⟩ := h
  exact h4
theorem EpIn.more {w0 w : World} {F : Nat → Prop} {gx n k k' : Nat} {s : ESt} (h : EpIn w0 F gx n k s w) (hk : k ≤ k') : EpIn w0 F gx n k' s w := by
  obtain ⟨C, gm, L, h1, h2, h3, h4, h5, h6, h7⟩ := h
  exact ⟨C, gm, L, h1, by omega, h3, h4, h5, h6.more hk, h7⟩
theorem EpIn.inv {w0 w : World} {F : Nat → Prop} {gx n k : Nat} {s : ESt} (h : EpIn w0 F gx n k s w) : EInv n s ∧ EBd k s ∧ ESorted s ∧ n ≤ 64 := by
  obtain ⟨C, gm, L, h1, h2, h3, h4, h5, h6, h7⟩ := h
  exact ⟨h5, h6, h7⟩
/-- it went on; what is in no block of its own is as it was -/
def EinGo (w0 w : World) (F : Nat → Prop) (gx n k : Nat) (s : ESt) (w' : World) : Prop :=
  ∃ F', EpIn w0 F' gx n k s w' ∧ GB w w' F ∧ ∀ i, F' i → F i ∨ w.heap.size ≤ i
theorem ein_go {w0 w w' : World} {C F : Nat → Prop} {gx gm n k : Nat} {L : List AccE} {s : ESt} (hC : ∀ i, C i → F i) (g : EpGo w C F gx gm n L s w') (hl : L.length ≤ k) (x : Ext w0 w) (hf : ∀ i, F i → w0.heap.size ≤ i) (hi : EInv n s) (hb : EBd k s) (hs : ESorted s) (hn : n ≤ 64) : EinGo w0 w F gx n k s w' := by
  obtain ⟨C', F', h1, h2, h3, h4, h5⟩ := g
  exact ⟨F', ⟨C', _, L, h1, hl, h2.to_ext x (fun i hi => hf i (hC i hi)), fun i hi => (h5 i hi).elim (hf i) (fun h => Nat.le_trans x.size h), hi, hb, hs, hn⟩, h2.more (fun i _ hi => hC i hi), h5⟩
theorem EinGo.any {w0 w w' : World} {F : Nat → Prop} {gx n k : Nat} {s : ESt} (h : EinGo w0 w F gx n k s w') : ∃ F', EpIn w0 F' gx n k s w' := by
  obtain ⟨F', h, _⟩ := h
  exact ⟨F', h⟩
theorem EinGo.refl {w0 w : World} {F : Nat → Prop} {gx n k : Nat} {s : ESt} (h : EpIn w0 F gx n k s w) : EinGo w0 w F gx n k s w := ⟨F, h, GB.refl w F, fun _ h => .inl h⟩
theorem ein_new (n : Nat) (w0 w : World) (x : Ext w0 w) (h1 : 1 ≤ n) (h2 : n ≤ 64) : Calls Try.prog 14 #[.int .i64 (n : Int)] w fun e w' => ∃ gx F, e = .returned (.tuple #[.pointer (some ⟨gx, 0, none⟩), .int .i64 0]) ∧ EpIn w0 F gx n 0 eInit w' ∧ Ext w w' ∧ ∀ i, F i → w.heap.size ≤ i := by
  refine (enew_ok n w h1 h2).mono ?_
  rintro e w' ⟨gx, gm, C, F, rfl, h3, h4, h5⟩
  exact ⟨gx, F, rfl, ⟨C, gm, [], h3, Nat.le_refl _, x.trans h4, fun i hi => Nat.le_trans x.size (h5 i hi), einv_new n, ⟨Nat.le_refl _, fun w => ⟨Nat.zero_le _, Nat.le_refl _⟩⟩, fun w => List.Pairwise.nil, h2⟩, h4, h5⟩
/-- a call that has begun, or was refused -/
def startSt (s : ESt) (who op : Nat) (thing : Int) : ESt := if startErr s who op = 0 then s.put who { s.wk who with call := .begun op thing } else s
theorem start_idle {s : ESt} {who op : Nat} (h : startErr s who op = 0) : (s.wk who).call = .idle ∧ (op = 1 → (s.wk who).pinned = false) ∧ (op = 2 → (s.wk who).pinned = true) := by
  unfold startErr at h
  have hi : ¬ isIdle (s.wk who).call = false := fun e => by rw [if_pos e] at h; cases h
  rw [if_neg hi] at h
  have e2 : ¬ (op = 2 ∧ (s.wk who).pinned = false) := fun e => by rw [if_pos e] at h; cases h
  rw [if_neg e2] at h
  have e1 : ¬ (op = 1 ∧ (s.wk who).pinned = true) := fun e => by rw [if_pos e] at h; cases h
  refine ⟨(idle_iff _).1 (by simpa using hi), fun e => ?_, fun e => ?_⟩
  · cases hp : (s.wk who).pinned with
    | false => rfl
    | true => exact absurd ⟨e, hp⟩ e1
  · cases hp : (s.wk who).pinned with
    | true => rfl
    | false => exact absurd ⟨e, hp⟩ e2
theorem ein_start (w0 w : World) (F : Nat → Prop) (gx n k who op : Nat) (thing : Int) (s : ESt) (h : EpIn w0 F gx n k s w) (hw : who < n) (h1 : 1 ≤ op) (h5 : op ≤ 5) :
    Calls Try.prog 16 #[.pointer (some ⟨gx, 0, none⟩), .int .i64 (who : Int), .int .u8 (op : Int), .int .i64 thing] w fun e w' => e = .returned (.int .i64 (startErr s who op)) ∧ EinGo w0 w F gx n k (startSt s who op thing) w' := by
  have hin := h
  obtain ⟨C, gm, L, e1, e2, e3, e4, e5, e6, e7, e8⟩ := h
  unfold startSt
  by_cases he : startErr s who op = 0
  · rw [if_pos he, he]
    refine (estart_ok w C F gx gm n who op thing L s e1 hw h1 h5 he).mono ?_
    rintro e w' ⟨rfl, g⟩
    obtain ⟨hi, hp, hu⟩ := start_idle he
    exact ⟨rfl, ein_go e1.sub g e2 e3 e4 (einv_start e5 hw hi h1 h5 hp hu) (ebd_put e6 (e6.2 who).2) (sorted_put e7 (e7 who)) e8⟩
  · rw [if_neg he]
    refine (estart_err w C F gx gm n who op thing L s e1 hw h1 h5 he).mono ?_
    rintro e w' ⟨rfl, rfl⟩
    exact ⟨rfl, EinGo.refl hin⟩
theorem ein_start_bad (w0 w : World) (F : Nat → Prop) (gx n k op : Nat) (who thing : Int) (s : ESt) (h : EpIn w0 F gx n k s w) (hop : op < 256) (hb : ¬ (0 ≤ who ∧ who < (n : Int)) ∨ op = 0 ∨ 5 < op) :
    Calls Try.prog 16 #[.pointer (some ⟨gx, 0, none⟩), .int .i64 who, .int .u8 (op : Int), .int .i64 thing] w fun e w' => e = .returned (.int .i64 1) ∧ w = w' := by
  obtain ⟨C, gm, L, e1, _⟩ := h
  obtain ⟨gw, x1⟩ := e1.x1
  exact estart_arg w gx n gw who thing op x1 hop hb
/-- a step's result -/
def StepIn (w0 w : World) (F : Nat → Prop) (gx n k : Nat) (p : ESt × ERes) (last : Value) (e : Ending) (w' : World) : Prop :=
  ∃ A m q F', e = .returned (.tuple #[.agg #[.bool p.2.done, .int .i64 (p.2.err : Int), .int .i64 (p.2.num : Int), .slice A m q], last]) ∧ EpIn w0 F' gx n k p.1 w' ∧ GB w w' F ∧ (∀ i, F' i → F i ∨ w.heap.size ≤ i) ∧ ThOk w w' F' A m q p.2.things
theorem ein_step (w0 w : World) (F : Nat → Prop) (gx n k who : Nat) (s : ESt) (h : EpIn w0 F gx n k s w) (hw : who < n) (hs : (s.wk who).call ≠ .idle) (hk : k ≤ 100000) :
    Calls Try.prog 18 #[.pointer (some ⟨gx, 0, none⟩), .int .i64 (who : Int)] w (StepIn w0 w F gx n (k + 1) (eStep n s who) (.int .i64 0)) := by
  obtain ⟨C, gm, L, e1, e2, e3, e4, e5, e6, e7, e8⟩ := h
  refine (estep_any w C F gx gm n who k L s e1 (by omega) hw e8 e5 e6 hk hs).mono ?_
  rintro e w' ⟨L', A, m, q, C', F', hl, rfl, g1, g2, g3, g4, g5, g6⟩
  exact ⟨A, m, q, F', rfl, ⟨C', gm, L', g1, by omega, g2.to_ext e3 (fun i hi => e4 i (e1.sub i hi)), fun i hi => (g5 i hi).elim (e4 i) (fun h => Nat.le_trans e3.size h), einv_step e5 hw, ebd_step e6 e5 hw, sorted_step e7 e5 hw, e8⟩, g2.more (fun i _ hi => e1.sub i hi), g5, g6⟩
theorem ein_idle (w0 w : World) (F : Nat → Prop) (gx n k who : Nat) (s : ESt) (h : EpIn w0 F gx n k s w) (hw : who < n) (hs : (s.wk who).call = .idle) :
    Calls Try.prog 18 #[.pointer (some ⟨gx, 0, none⟩), .int .i64 (who : Int)] w (RetE (.tuple #[.agg #[.bool false, .int .i64 0, .int .i64 0, .slice none 0 0], .int .i64 7]) w) := by
  obtain ⟨C, gm, L, e1, _⟩ := h
  exact estep_idle w C F gx gm n who L s e1 hw hs
theorem ein_step_bad (w0 w : World) (F : Nat → Prop) (gx n k : Nat) (who : Int) (s : ESt) (h : EpIn w0 F gx n k s w) (hb : ¬ (0 ≤ who ∧ who < (n : Int))) :
    Calls Try.prog 18 #[.pointer (some ⟨gx, 0, none⟩), .int .i64 who] w (RetE (.tuple #[.agg #[.bool false, .int .i64 0, .int .i64 0, .slice none 0 0], .int .i64 1]) w) := by
  obtain ⟨C, gm, L, e1, _⟩ := h
  obtain ⟨gw, x1⟩ := e1.x1
  exact estep_bad w gx n gw who x1 hb
theorem ein_pend (w0 w : World) (F : Nat → Prop) (gx n k who : Nat) (s : ESt) (h : EpIn w0 F gx n k s w) (hw : who < n) :
    Calls Try.prog 19 #[.pointer (some ⟨gx, 0, none⟩), .int .i64 (who : Int)] w fun e w' => e = .returned (.bool (!isIdle (s.wk who).call)) ∧ w = w' := by
  obtain ⟨C, gm, L, e1, _⟩ := h
  refine epend_any w C F gx gm n who L s e1 hw _ ?_
  cases hi : isIdle (s.wk who).call with
  | true => exact .inr ⟨rfl, (idle_iff _).1 hi⟩
  | false => exact .inl ⟨rfl, fun e => by rw [(idle_iff _).2 e] at hi; cases hi⟩
theorem ein_pinned (w0 w : World) (F : Nat → Prop) (gx n k who : Nat) (s : ESt) (h : EpIn w0 F gx n k s w) (hw : who < n) :
    Calls Try.prog 15 #[.pointer (some ⟨gx, 0, none⟩), .int .i64 (who : Int)] w fun e w' => e = .returned (.bool (s.wk who).pinned) ∧ w = w' := by
  obtain ⟨C, gm, L, e1, _⟩ := h
  exact epinned_any w C F gx gm n who L s e1 hw
theorem ein_epoch (w0 w : World) (F : Nat → Prop) (gx n k : Nat) (s : ESt) (h : EpIn w0 F gx n k s w) (hk : k ≤ 1000000) :
    Calls Try.prog 17 #[.pointer (some ⟨gx, 0, none⟩)] w fun e w' => e = .returned (.int .i64 (s.ep : Int)) ∧ w = w' := by
  obtain ⟨C, gm, L, e1, e2, e3, e4, e5, e6, _⟩ := h
  exact eepoch_any w C F gx gm n L s e1 (by have := e6.1; omega)
theorem ein_held (w0 w : World) (F : Nat → Prop) (gx n k who : Nat) (s : ESt) (h : EpIn w0 F gx n k s w) (hw : who < n) (hk : k ≤ 1000000) :
    Calls Try.prog 22 #[.pointer (some ⟨gx, 0, none⟩), .int .i64 (who : Int)] w (RetN ((s.wk who).held.map (·.1)) w) := by
  obtain ⟨C, gm, L, e1, e2, e3, e4, e5, e6, _⟩ := h
  exact eheld_any w C F gx gm n who L s e1 hw (by have := (e6.2 who).2; omega)
theorem EinGo.then {w0 w w1 w2 : World} {F F1 : Nat → Prop} {gx n k : Nat} {p : ESt × ERes} {last : Value} {e : Ending} (g : GB w w1 F) (hF : ∀ i, F1 i → F i ∨ w.heap.size ≤ i) (h : StepIn w0 w1 F1 gx n k p last e w2) : StepIn w0 w F gx n k p last e w2 := by
  obtain ⟨A, m, q, F', rfl, h1, h2, h3, h4, h5⟩ := h
  refine ⟨A, m, q, F', rfl, h1, g.trans h2 hF, fun i hi => ?_, own_base h4 g.size, h5⟩
  rcases h3 i hi with h | h
  · exact hF i h
  · exact .inr (Nat.le_trans g.size h)
end Go.Proofs.Ytlgggeeflomelaa
