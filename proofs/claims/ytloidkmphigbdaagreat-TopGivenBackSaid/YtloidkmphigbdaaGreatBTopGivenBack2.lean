/- Laid together: what 'TopGivenBack' needs, part 2 of 12. -/
import Derived.Deep.RegionHeld3
import Derived.Deep.QuietTactic
import Derived.BigRegion
import Derived.Test.YtloidkmphigbdaaGreatProg
import Derived.Outline
import Derived.BigQuiet
import Derived.WalkLawsBesides
import Derived.Test.YtloidkmphigbdaaGreatBTopGivenBack1
namespace Go.Proofs.YtloidkmphigbdaaGreat
set_option linter.all false

section
open Go.RowKit

/-- what stands fast of a core -/
structure CoK where
  gx : Nat
  gl : Nat
  gb : Nat
  gm : Nat
  gh : Nat
  PA : Option Addr
  pc : Nat
  P : List Pol
  room : Nat
abbrev XO (C O : Nat → Prop) : Nat → Prop := fun i => C i ∨ O i
def xCells (gx who : Nat) (x : PCall) (K : Option Addr) (kc : Nat) (res : Bool) (ser : Int) : Array Value :=
  #[.int .u8 (x.op : Int), .int .i64 (x.pol : Int), .slice K x.key.length kc, .int .i64 x.n, ptrV gx, .int .i64 (who : Int), .int .u64 (sumK x.id : Int), .bool res, .int .i64 ser]
/-- the box of a call -/
def XAt (w : World) (X : Nat → Prop) (gx who : Nat) (x : PCall) (res : Bool) (ser : Int) (xb : Nat) : Prop :=
  ∃ t K kc, w.heap[xb]? = some (.cells (xCells gx who x K kc res ser) t (0, 0)) ∧ x.key.length ≤ kc ∧ Rd w K (vals .u8 x.key) ∧ Fz w X K
theorem XAt.kp {w w' : World} {X X' : Nat → Prop} {gx who xb : Nat} {x : PCall} {res : Bool} {ser : Int} (h : XAt w X gx who x res ser xb) (k : Kp w w' X X') (hb : w'.heap[xb]? = w.heap[xb]?) : XAt w' X' gx who x res ser xb := by
  obtain ⟨t, K, kc, h1, h2, h3, h4⟩ := h
  exact ⟨t, K, kc, hb.trans h1, h2, k.rd h3 h4, h4.kp k⟩
theorem XAt.ext {w w' : World} {X : Nat → Prop} {gx who xb : Nat} {x : PCall} {res : Bool} {ser : Int} (h : XAt w X gx who x res ser xb) (e : Ext w w') : XAt w' X gx who x res ser xb := by
  have hb : xb < w.heap.size := by obtain ⟨t, K, kc, h1, _⟩ := h; exact blk_lt h1
  exact h.kp (Kp.ext X e) (e.block xb hb)
abbrev cidOf (g : CoK) (who xb : Nat) (x : PCall) : CId := ⟨g.gl, who, xb, polAt g.P x.pol⟩
def PendK (w : World) (X : Nat → Prop) (g : CoK) (who xb : Nat) (v : Value) : KCall → Prop
  | .idle => v = .nilFunc
  | .run x res ser k => XAt w X g.gx who x res ser xb ∧ KontAt w X (cidOf g who xb x) v k
def isRun : KCall → Bool
  | .idle => false
  | .run _ _ _ _ => true
theorem PendK.kp {w w' : World} {X X' : Nat → Prop} {g : CoK} {who xb : Nat} {v : Value} {c : KCall} (h : PendK w X g who xb v c) (k : Kp w w' X X') (hb : isRun c = true → w'.heap[xb]? = w.heap[xb]?) : PendK w' X' g who xb v c := by
  cases c with
  | idle => exact h
  | run x res ser t => exact ⟨h.1.kp k (hb rfl), h.2.kp k⟩
/-- a core in memory: C are its blocks that are written, O are those that others may write -/
structure CoB (w : World) (g : CoK) (O C : Nat → Prop) (xb : Nat → Nat) (L : List AccE) (s : KSt) (Fm : Nat → Prop) (fs hv : List Value) (tx tl tb th : TypeId) : Prop where
  mach : MachAt w Fm g.gm s.ws (s.clk : Int) L
  wsl : s.ws.length = 34
  hsl : s.hs.length = 34
  bx : w.heap[g.gx]? = some (.cells (Value.slice g.PA g.P.length g.pc :: Value.int .u64 (g.room : Int) :: ptrV g.gl :: fs).toArray tx (0, 0))
  fsl : fs.length = 64
  bl : w.heap[g.gl]? = some (.cells #[ptrV g.gb, fnV 39 #[]] tl (0, 0))
  bb : w.heap[g.gb]? = some (.cells #[ptrV g.gm, .slice (some ⟨g.gh, 0, none⟩) 34 34] tb (0, 0))
  bh : w.heap[g.gh]? = some (.cells hv.toArray th (0, 0))
  hvl : hv.length = 34
  holds : ∀ (i : Nat) (h : List PCell), s.hs[i]? = some h → ∃ (A : Option Addr) (c : Nat) (rs : List CRef), hv[i]? = some (.slice A h.length c) ∧ CellsF w (XO C O) A h rs
  prd : Rd w g.PA (polsV g.P)
  pfz : Fz w (XO C O) g.PA
  pend : ∀ (i : Nat) (v : Value), fs[i]? = some v → PendK w (XO C O) g i (xb i) v (s.call i)
  mx : ¬ Fm g.gx
  mh : ¬ Fm g.gh
  xh : g.gx ≠ g.gh
  nl : ¬ XO C O g.gl
  nb : ¬ XO C O g.gb
  cx : C g.gx
  ch : C g.gh
  cm : ∀ i, Fm i → C i
  xs : ∀ i, i < 64 → isRun (s.call i) = true → C (xb i) ∧ ¬ Fm (xb i) ∧ xb i ≠ g.gx ∧ xb i ≠ g.gh
  inj : ∀ i j, i < 64 → j < 64 → isRun (s.call i) = true → isRun (s.call j) = true → xb i = xb j → i = j
  lt : ∀ i, C i → i < w.heap.size
  co : ∀ i, C i → ¬ O i
  ol : ∀ i, O i → i < w.heap.size
def CoAt (w : World) (g : CoK) (O C : Nat → Prop) (xb : Nat → Nat) (L : List AccE) (s : KSt) : Prop := ∃ Fm fs hv tx tl tb th, CoB w g O C xb L s Fm fs hv tx tl tb th
/-- it went on -/
def CoGo (w : World) (g : CoK) (O C : Nat → Prop) (xb : Nat → Nat) (L : List AccE) (s : KSt) (w' : World) : Prop :=
  ∃ C', CoAt w' g O C' xb L s ∧ GB w w' C ∧ ∀ i, C' i → C i ∨ w.heap.size ≤ i
theorem CoAt.lt {w : World} {g : CoK} {O C : Nat → Prop} {xb : Nat → Nat} {L : List AccE} {s : KSt} (h : CoAt w g O C xb L s) : ∀ i, C i → i < w.heap.size := by
  obtain ⟨Fm, fs, hv, tx, tl, tb, th, h⟩ := h
  exact h.lt
theorem CoAt.co {w : World} {g : CoK} {O C : Nat → Prop} {xb : Nat → Nat} {L : List AccE} {s : KSt} (h : CoAt w g O C xb L s) : ∀ i, C i → ¬ O i := by
  obtain ⟨Fm, fs, hv, tx, tl, tb, th, h⟩ := h
  exact h.co
theorem fs_lt {w : World} {g : CoK} {O C : Nat → Prop} {xb : Nat → Nat} {L : List AccE} {s : KSt} {Fm : Nat → Prop} {fs hv : List Value} {tx tl tb th : TypeId} (h : CoB w g O C xb L s Fm fs hv tx tl tb th) {i : Nat} {v : Value} (hv : fs[i]? = some v) : i < 64 := by
  have := (List.getElem?_eq_some_iff.1 hv).1
  have := h.fsl
  omega
/-- others wrote, blocks of others came -/
theorem CoAt.far {w w' : World} {g : CoK} {O O' C S : Nat → Prop} {xb : Nat → Nat} {L : List AccE} {s : KSt} (h : CoAt w g O C xb L s) (k : GB w w' S) (hs : ∀ i, i < w.heap.size → S i → O i) (ho : ∀ i, i < w.heap.size → O' i → O i) (hl : ∀ i, O' i → i < w'.heap.size) : CoAt w' g O' C xb L s := by
  obtain ⟨Fm, fs, hv, tx, tl, tb, th, h⟩ := h
  have hS : ∀ i, C i → ¬ S i := fun i hi e => h.co i hi (hs i (h.lt i hi) e)
  have kp : Kp w w' (XO C O) (XO C O') := Kp.of k (fun i hi e => .inr (hs i hi e)) (fun i hi e => e.imp id (ho i hi))
  have nX : ∀ {b : Nat} {o : Obj}, w.heap[b]? = some o → ¬ XO C O b → ¬ S b := fun hb hx e => hx (.inr (hs _ (blk_lt hb) e))
  exact ⟨Fm, fs, hv, tx, tl, tb, th, ⟨h.mach.gb k (fun i hi => hS i (h.cm i hi)), h.wsl, h.hsl, k.blk h.bx (hS _ h.cx), h.fsl, k.blk h.bl (nX h.bl h.nl), k.blk h.bb (nX h.bb h.nb), k.blk h.bh (hS _ h.ch), h.hvl,
    fun i l hl => by obtain ⟨A, c, rs, e1, e2⟩ := h.holds i l hl; exact ⟨A, c, rs, e1, e2.kp kp⟩, kp.rd h.prd h.pfz, h.pfz.kp kp,
    fun i v hv => (h.pend i v hv).kp kp (fun hr => k.block _ (h.lt _ (h.xs i (fs_lt h hv) hr).1) (hS _ (h.xs i (fs_lt h hv) hr).1)),
    h.mx, h.mh, h.xh, fun e => h.nl (kp.keep _ (blk_lt h.bl) e), fun e => h.nb (kp.keep _ (blk_lt h.bb) e), h.cx, h.ch, h.cm, h.xs, h.inj, fun i hi => Nat.lt_of_lt_of_le (h.lt i hi) k.size, fun i hi e => h.co i hi (ho i (h.lt i hi) e), hl⟩⟩
theorem CoAt.ol {w : World} {g : CoK} {O C : Nat → Prop} {xb : Nat → Nat} {L : List AccE} {s : KSt} (h : CoAt w g O C xb L s) : ∀ i, O i → i < w.heap.size := by
  obtain ⟨Fm, fs, hv, tx, tl, tb, th, h⟩ := h
  exact h.ol
theorem CoAt.ext {w w' : World} {g : CoK} {O C : Nat → Prop} {xb : Nat → Nat} {L : List AccE} {s : KSt} (h : CoAt w g O C xb L s) (x : Ext w w') : CoAt w' g O C xb L s := h.far (GB.of_ext (fun _ => False) x) (fun _ _ e => e.elim) (fun _ _ e => e) (fun i hi => Nat.lt_of_lt_of_le (h.ol i hi) x.size)
theorem CoGo.back {w0 w w1 : World} {g : CoK} {O C : Nat → Prop} {xb : Nat → Nat} {L : List AccE} {s : KSt} (x : Ext w0 w) (h : CoGo w g O C xb L s w1) : CoGo w0 g O C xb L s w1 := by
  obtain ⟨C', h1, h2, h3⟩ := h
  exact ⟨C', h1, GB.back x h2, fun i hi => (h3 i hi).imp id (Nat.le_trans x.size)⟩
theorem getD_some {α : Type} {l : List α} {i : Nat} {d : α} (h : i < l.length) : l[i]? = some (l.getD i d) := by
  rw [List.getD_eq_getElem?_getD, List.getElem?_eq_getElem h]
  rfl
/-- a step of the machine, and a store into what is held -/
theorem CoAt.swap {w : World} {g : CoK} {O C : Nat → Prop} {xb : Nat → Nat} {L : List AccE} {s : KSt} (h : CoAt w g O C xb L s) :
    ∃ Fm, MachAt w Fm g.gm s.ws (s.clk : Int) L ∧ s.ws.length = 34 ∧ w.cell? ⟨g.gb, 0, none⟩ = some (ptrV g.gm) ∧ w.cell? ⟨g.gb, 1, none⟩ = some (.slice (some ⟨g.gh, 0, none⟩) 34 34) ∧
      (∀ i, i < 34 → ∃ A c rs, w.cell? ⟨g.gh, i, none⟩ = some (.slice A (s.hs.getD i []).length c) ∧ CellsF w (XO C O) A (s.hs.getD i []) rs) ∧ (∃ t cs, w.heap[g.gh]? = some (.cells cs t (0, 0))) ∧ ¬ Fm g.gb ∧ ¬ Fm g.gh ∧
      (∀ L' w', MachGo w Fm g.gm s.ws (s.clk : Int) L' w' → CoGo w g O C xb L' s w') ∧
      (∀ L' w' i v A c l rs, i < 34 → MachGo w Fm g.gm (s.ws.set i v) (s.clk : Int) L' w' → CellsF w (XO C O) A l rs → CoGo w g O C xb L' { s with ws := s.ws.set i v, hs := s.hs.set i l } (w'.setCell ⟨g.gh, i, none⟩ (.slice A l.length c))) ∧
      (∀ L' w' (n : Nat), MachGo w Fm g.gm s.ws (n : Int) L' w' → CoGo w g O C xb L' { s with clk := n } w') := by
  obtain ⟨Fm, fs, hv, tx, tl, tb, th, h⟩ := h
  have nFb : ¬ Fm g.gb := fun e => h.nb (.inl (h.cm _ e))
  have nFl : ¬ Fm g.gl := fun e => h.nl (.inl (h.cm _ e))
  have nhb : g.gb ≠ g.gh := fun e => h.nb (.inl (e ▸ h.ch))
  have nhl : g.gl ≠ g.gh := fun e => h.nl (.inl (e ▸ h.ch))
  -- the machine's part alone
  have core : ∀ (L' : List AccE) (w' : World) (ws' : List Nat) (n : Nat), ws'.length = 34 → MachGo w Fm g.gm ws' (n : Int) L' w' → ∃ Fm' C', CoB w' g O C' xb L' { s with ws := ws', clk := n } Fm' fs hv tx tl tb th ∧ GB w w' C ∧ (∀ i, C' i → C i ∨ w.heap.size ≤ i) := fun L' w' ws' n hl hgo => by
    obtain ⟨Fm', m, k, f⟩ := hgo
    have hnew : ∀ q, q < w.heap.size → ¬ Fm q → ¬ Fm' q := fun q hq h1 e => (f q e).elim h1 (fun f => by omega)
    have hz : ∀ i, (C i ∨ Fm' i) → C i ∨ w.heap.size ≤ i := fun i hi => hi.elim .inl (fun e => (f i e).imp (h.cm i) id)
    have kp : Kp w w' (XO C O) (XO (fun i => C i ∨ Fm' i) O) := Kp.of k (fun i _ e => .inl (h.cm i e)) (fun i hi e => e.imp (fun e => (hz i e).resolve_right (by omega)) id)
    refine ⟨Fm', fun i => C i ∨ Fm' i, ⟨m, hl, h.hsl, k.blk h.bx h.mx, h.fsl, k.blk h.bl nFl, k.blk h.bb nFb, k.blk h.bh h.mh, h.hvl,
      fun i l hl => by obtain ⟨A, c, rs, e1, e2⟩ := h.holds i l hl; exact ⟨A, c, rs, e1, e2.kp kp⟩, kp.rd h.prd h.pfz, h.pfz.kp kp,
      fun i v hv => (h.pend i v hv).kp kp (fun hr => k.block _ (h.lt _ (h.xs i (fs_lt h hv) hr).1) (h.xs i (fs_lt h hv) hr).2.1),
      hnew _ (h.lt _ h.cx) h.mx, hnew _ (h.lt _ h.ch) h.mh, h.xh, fun e => h.nl (kp.keep _ (blk_lt h.bl) e), fun e => h.nb (kp.keep _ (blk_lt h.bb) e), .inl h.cx, .inl h.ch, fun i hi => .inr hi,
      fun i hi hr => by obtain ⟨a1, a2, a3, a4⟩ := h.xs i hi hr; exact ⟨.inl a1, hnew _ (h.lt _ a1) a2, a3, a4⟩, h.inj, fun i hi => ?_, fun i hi e => ?_, fun i hi => Nat.lt_of_lt_of_le (h.ol i hi) k.size⟩, k.more (fun i _ e => h.cm i e), hz⟩
    · exact hi.elim (fun e => Nat.lt_of_lt_of_le (h.lt i e) k.size) (fun e => m.lt i e)
    · have := h.ol i e
      exact h.co i ((hz i hi).resolve_right (by omega)) e
  refine ⟨Fm, h.mach, h.wsl, blk_cell h.bb 0, blk_cell h.bb 1, fun i hi => ?_, ⟨_, _, h.bh⟩, nFb, h.mh, fun L' w' hgo => ?_, fun L' w' i v A c l rs hi hgo hc => ?_, fun L' w' n hgo => ?_⟩
  · obtain ⟨A, c, rs, e1, e2⟩ := h.holds i _ (getD_some (d := []) (by rw [h.hsl]; exact hi))
    exact ⟨A, c, rs, (blk_cell h.bh i).trans (by rw [List.getElem?_toArray]; exact e1), e2⟩
  · obtain ⟨Fm', C', b, k, z⟩ := core L' w' s.ws s.clk h.wsl hgo
    exact ⟨C', ⟨_, _, _, _, _, _, _, b⟩, k, z⟩
  · obtain ⟨Fm', C', b, k, z⟩ := core L' w' (s.ws.set i v) s.clk (by rw [List.length_set]; exact h.wsl) hgo
    have gs : GB w' (w'.setCell ⟨g.gh, i, none⟩ (.slice A l.length c)) (· = g.gh) := (GB.refl w' (· = g.gh)).set g.gh _ _ (.inl rfl)
    have kp : Kp w' (w'.setCell ⟨g.gh, i, none⟩ (.slice A l.length c)) (XO C' O) (XO C' O) := Kp.of gs (fun j _ e => .inl (e ▸ b.ch)) (fun _ _ e => e)
    have kp0 : Kp w w' (XO C O) (XO C' O) := Kp.of k (fun j _ e => .inl e) (fun j hj e => e.imp (fun e => (z j e).resolve_right (by omega)) id)
    refine ⟨C', ⟨Fm', fs, hv.set i (.slice A l.length c), tx, tl, tb, th, ⟨b.mach.gb gs (fun j hj e => b.mh (e ▸ hj)), b.wsl, by rw [List.length_set]; exact b.hsl, gs.blk b.bx h.xh, b.fsl, gs.blk b.bl nhl, gs.blk b.bb nhb, ?_, by rw [List.length_set]; exact b.hvl,
      fun j hh hl => ?_, kp.rd b.prd b.pfz, b.pfz.kp kp, fun j v hv => (b.pend j v hv).kp kp (fun hr => gs.block _ (b.lt _ (b.xs j (fs_lt b hv) hr).1) (b.xs j (fs_lt b hv) hr).2.2.2), b.mx, b.mh, b.xh, b.nl, b.nb, b.cx, b.ch, b.cm, b.xs, b.inj, fun j hj => by simpa using b.lt j hj, b.co, fun j hj => by simpa using b.ol j hj⟩⟩, k.trans gs (fun j e => .inl (e ▸ h.ch)), z⟩
    · refine (blk_set b.bh i _).trans ?_
      rw [List.setIfInBounds_toArray]
    · by_cases e : i = j
      · subst e
        rw [List.getElem?_set_self (by rw [h.hsl]; exact hi)] at hl
        injection hl with hl
        subst hl
        exact ⟨A, c, rs, by rw [List.getElem?_set_self (by rw [h.hvl]; exact hi)], (hc.kp kp0).kp kp⟩
      · rw [List.getElem?_set_ne e] at hl
        obtain ⟨A2, c2, rs2, e1, e2⟩ := b.holds j hh hl
        exact ⟨A2, c2, rs2, by rw [List.getElem?_set_ne e]; exact e1, e2.kp kp⟩
  · obtain ⟨Fm', C', b, k, z⟩ := core L' w' s.ws n h.wsl hgo
    exact ⟨C', ⟨_, _, _, _, _, _, _, b⟩, k, z⟩
/-- a worker's pending call, and what it may become -/
theorem CoAt.pend {w : World} {g : CoK} {O C : Nat → Prop} {xb : Nat → Nat} {L : List AccE} {s : KSt} (h : CoAt w g O C xb L s) {who : Nat} (hw : who < 64) :
    ∃ f, w.cell? ⟨g.gx, 3 + who, none⟩ = some f ∧ w.frozen? ⟨g.gx, 3 + who, none⟩ = false ∧ C g.gx ∧ PendK w (XO C O) g who (xb who) f (s.call who) ∧
      ∀ f' c', PendK w (XO C O) g who (xb who) f' c' → (isRun c' = true → isRun (s.call who) = true) → CoGo w g O C xb L (s.put who c') (w.setCell ⟨g.gx, 3 + who, none⟩ f') := by
  obtain ⟨Fm, fs, hv, tx, tl, tb, th, h⟩ := h
  have hl := h.fsl
  obtain ⟨v, hv'⟩ : ∃ v, fs[who]? = some v := ⟨_, List.getElem?_eq_getElem (by omega)⟩
  refine ⟨v, (blk_cell h.bx _).trans (by rw [List.getElem?_toArray, Nat.add_comm, List.getElem?_cons_succ, List.getElem?_cons_succ, List.getElem?_cons_succ]; exact hv'), blk_frozen h.bx _, h.cx, h.pend who v hv', fun f' c' hp hrun => ?_⟩
  have gs : GB w (w.setCell ⟨g.gx, 3 + who, none⟩ f') (· = g.gx) := (GB.refl w (· = g.gx)).set g.gx _ _ (.inl rfl)
  have kp : Kp w (w.setCell ⟨g.gx, 3 + who, none⟩ f') (XO C O) (XO C O) := Kp.of gs (fun j _ e => .inl (e ▸ h.cx)) (fun _ _ e => e)
  have nFx : ∀ i, Fm i → i ≠ g.gx := fun i hi e => h.mx (e ▸ hi)
  have ngl : g.gl ≠ g.gx := fun e => h.nl (.inl (e ▸ h.cx))
  have ngb : g.gb ≠ g.gx := fun e => h.nb (.inl (e ▸ h.cx))
  have rr : ∀ i, isRun ((s.put who c').call i) = true → isRun (s.call i) = true := fun i hr => by
    by_cases e : i = who
    · subst e; rw [kput_self] at hr; exact hrun hr
    · rw [kput_other s c' e] at hr; exact hr
  refine ⟨C, ⟨Fm, fs.set who f', hv, tx, tl, tb, th, ⟨h.mach.gb gs nFx, h.wsl, h.hsl, ?_, by rw [List.length_set]; exact h.fsl, gs.blk h.bl ngl, gs.blk h.bb ngb, gs.blk h.bh (fun e => h.xh e.symm), h.hvl,
    fun i l hl => by obtain ⟨A, c, rs, e1, e2⟩ := h.holds i l hl; exact ⟨A, c, rs, e1, e2.kp kp⟩, kp.rd h.prd h.pfz, h.pfz.kp kp, fun i y hy => ?_, h.mx, h.mh, h.xh, h.nl, h.nb, h.cx, h.ch, h.cm, fun i hi hr => h.xs i hi (rr i hr), fun i j hi hj hr hr2 => h.inj i j hi hj (rr i hr) (rr j hr2), fun i hi => by simpa using h.lt i hi, h.co, fun j hj => by simpa using h.ol j hj⟩⟩, (GB.refl w C).set g.gx _ _ (.inl h.cx), fun _ h => .inl h⟩
  · refine (blk_set h.bx _ _).trans ?_
    rw [List.setIfInBounds_toArray, Nat.add_comm, List.set_cons_succ, List.set_cons_succ, List.set_cons_succ]
  · by_cases e : i = who
    · subst e
      rw [List.getElem?_set_self (by omega)] at hy
      injection hy with hy
      subst hy
      rw [kput_self]
      exact hp.kp kp (fun hr => gs.block _ (h.lt _ (h.xs i hw (hrun hr)).1) (h.xs i hw (hrun hr)).2.2.1)
    · rw [List.getElem?_set_ne (fun h => e h.symm)] at hy
      rw [kput_other s c' e]
      exact (h.pend i y hy).kp kp (fun hr => gs.block _ (h.lt _ (h.xs i (fs_lt h (by rw [hy])) hr).1) (h.xs i (fs_lt h (by rw [hy])) hr).2.2.1)
/-- a call's box goes on -/
theorem CoAt.setx {w w' : World} {g : CoK} {O C : Nat → Prop} {xb : Nat → Nat} {L : List AccE} {s : KSt} (h : CoAt w g O C xb L s) {who : Nat} (hw : who < 64) {x : PCall} {res : Bool} {ser : Int} {k : Kont} (hc : s.call who = .run x res ser k)
    {res' : Bool} {ser' : Int} (k9 : GB w w' (· = xb who)) (hb : ∀ t K kc, w.heap[xb who]? = some (.cells (xCells g.gx who x K kc res ser) t (0, 0)) → w'.heap[xb who]? = some (.cells (xCells g.gx who x K kc res' ser') t (0, 0))) :
    CoGo w g O C xb L (s.put who (.run x res' ser' k)) w' := by
  obtain ⟨Fm, fs, hv, tx, tl, tb, th, h⟩ := h
  have hrw : isRun (s.call who) = true := by rw [hc]; rfl
  obtain ⟨x1, x2, x3, x4⟩ := h.xs who hw hrw
  have kp : Kp w w' (XO C O) (XO C O) := Kp.of k9 (fun j _ e => .inl (e ▸ x1)) (fun _ _ e => e)
  have nX : ∀ {b : Nat}, ¬ XO C O b → b ≠ xb who := fun hn e => hn (.inl (e ▸ x1))
  have rr : ∀ i, isRun ((s.put who (.run x res' ser' k)).call i) = true → isRun (s.call i) = true := fun i hr => by
    by_cases e : i = who
    · subst e; exact hrw
    · rw [kput_other s _ e] at hr; exact hr
  refine ⟨C, ⟨Fm, fs, hv, tx, tl, tb, th, ⟨h.mach.gb k9 (fun i hi e => x2 (e ▸ hi)), h.wsl, h.hsl, k9.blk h.bx (fun e => x3 e.symm), h.fsl, k9.blk h.bl (nX h.nl), k9.blk h.bb (nX h.nb), k9.blk h.bh (fun e => x4 e.symm), h.hvl,
    fun i l hl => by obtain ⟨A, c, rs, e1, e2⟩ := h.holds i l hl; exact ⟨A, c, rs, e1, e2.kp kp⟩, kp.rd h.prd h.pfz, h.pfz.kp kp, fun i y hy => ?_, h.mx, h.mh, h.xh, h.nl, h.nb, h.cx, h.ch, h.cm, fun i hi hr => h.xs i hi (rr i hr), fun i j hi hj hr hr2 => h.inj i j hi hj (rr i hr) (rr j hr2), fun i hi => Nat.lt_of_lt_of_le (h.lt i hi) k9.size, h.co, fun j hj => Nat.lt_of_lt_of_le (h.ol j hj) k9.size⟩⟩, k9.more (fun i _ e => e ▸ x1), fun _ h => .inl h⟩
  by_cases e : i = who
  · subst e
    rw [kput_self]
    have hp := h.pend i y hy
    rw [hc] at hp
    obtain ⟨⟨t, K, kc, e1, e2, e3, e4⟩, hk⟩ := hp
    exact ⟨⟨t, K, kc, hb t K kc e1, e2, kp.rd e3 e4, e4.kp kp⟩, hk.kp kp⟩
  · rw [kput_other s _ e]
    refine (h.pend i y hy).kp kp (fun hr => k9.block _ (h.lt _ (h.xs i (fs_lt h hy) hr).1) (fun e2 => e (h.inj i who (fs_lt h hy) hw hr hrw e2)))
/-- what a call's functions read of a core -/
structure CoRd (w : World) (X : Nat → Prop) (g : CoK) : Prop where
  c0 : w.cell? ⟨g.gx, 0, none⟩ = some (.slice g.PA g.P.length g.pc)
  c1 : w.cell? ⟨g.gx, 1, none⟩ = some (.int .u64 (g.room : Int))
  c2 : w.cell? ⟨g.gx, 2, none⟩ = some (ptrV g.gl)
  l0 : w.cell? ⟨g.gl, 0, none⟩ = some (ptrV g.gb)
  l1 : w.cell? ⟨g.gl, 1, none⟩ = some (fnV 39 #[])
  b0 : w.cell? ⟨g.gb, 0, none⟩ = some (ptrV g.gm)
  prd : Rd w g.PA (polsV g.P)
  pfz : Fz w X g.PA
theorem CoRd.ext {w w' : World} {X : Nat → Prop} {g : CoK} (h : CoRd w X g) (x : Ext w w') : CoRd w' X g :=
  ⟨ext_cell x h.c0, ext_cell x h.c1, ext_cell x h.c2, ext_cell x h.l0, ext_cell x h.l1, ext_cell x h.b0, h.prd.ext x, h.pfz.kp (Kp.ext X x)⟩
theorem CoAt.rd {w : World} {g : CoK} {O C : Nat → Prop} {xb : Nat → Nat} {L : List AccE} {s : KSt} (h : CoAt w g O C xb L s) : CoRd w (XO C O) g := by
  obtain ⟨Fm, fs, hv, tx, tl, tb, th, h⟩ := h
  exact ⟨blk_cell h.bx 0, blk_cell h.bx 1, blk_cell h.bx 2, blk_cell h.bl 0, blk_cell h.bl 1, blk_cell h.bb 0, h.prd, h.pfz⟩
theorem CoAt.xat {w : World} {g : CoK} {O C : Nat → Prop} {xb : Nat → Nat} {L : List AccE} {s : KSt} (h : CoAt w g O C xb L s) {who : Nat} (hw : who < 64) {x : PCall} {res : Bool} {ser : Int} {k : Kont} (hc : s.call who = .run x res ser k) : XAt w (XO C O) g.gx who x res ser (xb who) ∧ C (xb who) := by
  obtain ⟨Fm, fs, hv, tx, tl, tb, th, h⟩ := h
  have hl := h.fsl
  obtain ⟨v, hv'⟩ : ∃ v, fs[who]? = some v := ⟨_, List.getElem?_eq_getElem (by omega)⟩
  have hp := h.pend who v hv'
  rw [hc] at hp
  exact ⟨hp.1, (h.xs who hw (by rw [hc]; rfl)).1⟩
end

section
open Go.RowKit

theorem row7 {w : World} {g : Nat} {a0 a1 a2 a3 a4 a5 a6 : Value} {t : TypeId} (h : w.heap[g]? = some (.cells #[a0, a1, a2, a3, a4, a5, a6] t (0, 0))) (b0 b1 b2 b3 b4 b5 b6 : Value) :
    (((((((w.setCell ⟨g, 0, none⟩ b0).setCell ⟨g, 1, none⟩ b1).setCell ⟨g, 2, none⟩ b2).setCell ⟨g, 3, none⟩ b3).setCell ⟨g, 4, none⟩ b4).setCell ⟨g, 5, none⟩ b5).setCell ⟨g, 6, none⟩ b6).heap[g]? = some (.cells #[b0, b1, b2, b3, b4, b5, b6] t (0, 0)) := by
  have h1 : _ = some (Obj.cells #[b0, a1, a2, a3, a4, a5, a6] t (0, 0)) := blk_set h 0 b0
  have h2 : _ = some (Obj.cells #[b0, b1, a2, a3, a4, a5, a6] t (0, 0)) := blk_set h1 1 b1
  have h3 : _ = some (Obj.cells #[b0, b1, b2, a3, a4, a5, a6] t (0, 0)) := blk_set h2 2 b2
  have h4 : _ = some (Obj.cells #[b0, b1, b2, b3, a4, a5, a6] t (0, 0)) := blk_set h3 3 b3
  have h5 : _ = some (Obj.cells #[b0, b1, b2, b3, b4, a5, a6] t (0, 0)) := blk_set h4 4 b4
  have h6 : _ = some (Obj.cells #[b0, b1, b2, b3, b4, b5, a6] t (0, 0)) := blk_set h5 5 b5
  exact blk_set h6 6 b6
theorem grown7 (w : World) (g : Nat) (b0 b1 b2 b3 b4 b5 b6 : Value) : w.grownBy (((((((w.setCell ⟨g, 0, none⟩ b0).setCell ⟨g, 1, none⟩ b1).setCell ⟨g, 2, none⟩ b2).setCell ⟨g, 3, none⟩ b3).setCell ⟨g, 4, none⟩ b4).setCell ⟨g, 5, none⟩ b5).setCell ⟨g, 6, none⟩ b6) (some g) := by
  have h0 := grown_set w g 0 b0
  have h1 := grown_setCell h0 1 b1
  have h2 := grown_setCell h1 2 b2
  have h3 := grown_setCell h2 3 b3
  have h4 := grown_setCell h3 4 b4
  have h5 := grown_setCell h4 5 b5
  exact grown_setCell h5 6 b6
theorem ext7 {w w2 : World} {g : Nat} (h : Ext w w2) (hg : w.heap.size ≤ g) (b0 b1 b2 b3 b4 b5 b6 : Value) : Ext w (((((((w2.setCell ⟨g, 0, none⟩ b0).setCell ⟨g, 1, none⟩ b1).setCell ⟨g, 2, none⟩ b2).setCell ⟨g, 3, none⟩ b3).setCell ⟨g, 4, none⟩ b4).setCell ⟨g, 5, none⟩ b5).setCell ⟨g, 6, none⟩ b6) := ext_grown h (grown7 w2 g b0 b1 b2 b3 b4 b5 b6) hg
theorem cell_o7 {w : World} {p : Addr} {v : Value} {g : Nat} {b0 b1 b2 b3 b4 b5 b6 : Value} (h : w.cell? p = some v) (hne : p.block ≠ g) : (((((((w.setCell ⟨g, 0, none⟩ b0).setCell ⟨g, 1, none⟩ b1).setCell ⟨g, 2, none⟩ b2).setCell ⟨g, 3, none⟩ b3).setCell ⟨g, 4, none⟩ b4).setCell ⟨g, 5, none⟩ b5).setCell ⟨g, 6, none⟩ b6).cell? p = some v := by
  have h0 := cell_other (g := g) (i := 0) (u := b0) h hne
  have h1 := cell_other (g := g) (i := 1) (u := b1) h0 hne
  have h2 := cell_other (g := g) (i := 2) (u := b2) h1 hne
  have h3 := cell_other (g := g) (i := 3) (u := b3) h2 hne
  have h4 := cell_other (g := g) (i := 4) (u := b4) h3 hne
  have h5 := cell_other (g := g) (i := 5) (u := b5) h4 hne
  exact cell_other (g := g) (i := 6) (u := b6) h5 hne
theorem on_any (v : Value) (w : World) : Calls Tryz.prog 133 #[v] w fun e w' => e = .returned (.tuple #[v, .agg #[.bool false, .int .i64 0, .bool false, .int .i64 0, .int .i64 0, .int .i64 0, .int .i64 0]]) ∧ Ext w w' := by
  go_enter Tryz.func133, Tryz.ntmps133
  go_wp2_with fail
  refine bodyPost_ret (results_tmp_row (p := 3) (u := 2) rfl _ _ w.heap.size _ #[.bool false, .int .i64 0, .bool false, .int .i64 0, .int .i64 0, .int .i64 0, .int .i64 0] (0, 0) _ rfl (blk_new w _) Tryz.underlying41 (by rfl) (by kernel_rfl)) rfl ?_
  exact ⟨rfl, (Ext.refl w).alloc _⟩
theorem end_any (er : Int) (gr : Bool) (l wt sr nw : Int) (w : World) : Calls Tryz.prog 178 #[.agg #[.int .i64 er, .bool gr, .int .i64 l, .int .i64 wt, .int .i64 sr, .int .i64 nw]] w fun e w' => e = .returned (.tuple #[.nilFunc, .agg #[.bool true, .int .i64 er, .bool gr, .int .i64 l, .int .i64 wt, .int .i64 sr, .int .i64 nw]]) ∧ Ext w w' := by
  go_enter Tryz.func178, Tryz.ntmps178
  go_wp2_with fail
  go_region
  go_wp2_with fail
  refine bodyPost_ret (results_tmp_row (p := 3) (u := 2) rfl _ _ (w.heap.size + 1) _ #[.bool true, .int .i64 er, .bool gr, .int .i64 l, .int .i64 wt, .int .i64 sr, .int .i64 nw] (0, 0) _ rfl (blk_newk _ _ (by simp)) Tryz.underlying41 (by rfl) (by kernel_rfl)) rfl ?_
  exact ⟨rfl, (((Ext.refl w).alloc _).alloc _).drew⟩
end

section
open Go.RowKit

/-- a function that is answered, in new memory -/
def ClR (P : World → Value → Prop) (w : World) (e : Ending) (w' : World) : Prop := ∃ v, e = .returned v ∧ P w' v ∧ Ext w w'
def Newer (w : World) (X : Nat → Prop) : Prop := ∀ i, X i → i < w.heap.size
theorem Newer.not {w : World} {X : Nat → Prop} (h : Newer w X) {k : Nat} (hk : w.heap.size ≤ k) : ¬ X k := fun e => by have := h k e; omega
theorem Newer.ext {w w' : World} {X : Nat → Prop} (h : Newer w X) (x : Ext w w') : Newer w' X := fun i hi => Nat.lt_of_lt_of_le (h i hi) x.size
theorem RowX.new {w : World} {X : Nat → Prop} {k : Nat} {t : TypeId} {cs : Array Value} (hk : k = w.heap.size) (hx : ¬ X k) : RowX (w.alloc (.cells cs t (0, 0))) X (.pointer (some ⟨k, 0, none⟩)) cs := by
  subst hk
  exact ⟨_, t, rfl, blk_new w _, hx⟩
theorem RowX.past {w : World} {X : Nat → Prop} {p : Value} {cs : Array Value} (h : RowX w X p cs) (o : Obj) : RowX (w.alloc o) X p cs := h.ext ((Ext.refl w).alloc o)
theorem ThenAt.ext {w w' : World} {X : Nat → Prop} {d : CId} {v : Value} {t : Then} (h : ThenAt w X d v t) (x : Ext w w') : ThenAt w' X d v t := h.kp (Kp.ext X x)
theorem MThenAt.ext {w w' : World} {X : Nat → Prop} {d : CId} {sv tv : Value} {t : MThen} (h : MThenAt w X d sv tv t) (x : Ext w w') : MThenAt w' X d sv tv t := h.kp (Kp.ext X x)
theorem PutAt.ext {w w' : World} {X : Nat → Prop} {d : CId} {v : Value} {f : Found} {c : PCell} {r : KRep} (h : PutAt w X d v f c r) (x : Ext w w') : PutAt w' X d v f c r := h.kp (Kp.ext X x)
theorem KontAt.ext {w w' : World} {X : Nat → Prop} {d : CId} {v : Value} {t : Kont} (h : KontAt w X d v t) (x : Ext w w') : KontAt w' X d v t := h.kp (Kp.ext X x)
theorem ThenAt.fn {w : World} {X : Nat → Prop} {d : CId} {v : Value} {t : Then} (h : ThenAt w X d v t) : ∃ f c, v = fnV f c := by
  cases t with
  | begin => obtain ⟨_, _, h0, _⟩ := h; exact ⟨_, _, h0⟩
  | evict j s g => obtain ⟨_, _, _, _, h0, _⟩ := h; exact ⟨_, _, h0⟩
theorem MThenAt.fn {w : World} {X : Nat → Prop} {d : CId} {sv tv : Value} {t : MThen} (h : MThenAt w X d sv tv t) : ∃ f c, tv = fnV f c := by
  cases t with
  | leave r => obtain ⟨_, _, _, _, h0, _⟩ := h; exact ⟨_, _, h0⟩
  | gone j s g n => obtain ⟨_, _, _, _, _, _, _, h0, _⟩ := h; exact ⟨_, _, h0⟩
  | count f c r => obtain ⟨_, _, _, _, h0, _⟩ := h; exact ⟨_, _, h0⟩
  | serial f c => obtain ⟨_, _, _, _, _, _, h0, _⟩ := h; exact ⟨_, _, h0⟩
theorem lfind_any (w : World) (X : Nat → Prop) (d : CId) (sum : Nat) (tv : Value) (t : Then) (hX : Newer w X) (h : ThenAt w X d tv t) :
    Calls Tryz.prog 179 #[ptrV d.gl, .int .i64 (d.who : Int), .int .u64 (sum : Int), tv] w (ClR (fun w' v => KontAt w' X d v (.find sum t)) w) := by
  have hmf := hmfC
  obtain ⟨f, c, rfl⟩ := h.fn
  have H := Lib.hid h
  clear h
  go_enter Tryz.func179, Tryz.ntmps179
  go_wp2_with fail
  go_ret
  refine ⟨_, rfl, ⟨_, _, _, _, _, rfl, ⟨(((RowX.new rfl (hX.not (by omega))).past _).past _).past _, ((RowX.new (by simp) (hX.not (by omega))).past _).past _⟩, (RowX.new (by simp) (hX.not (by omega))).past _, RowX.new (by simp) (hX.not (by omega)), H.out.ext (((((Ext.refl w).alloc _).alloc _).alloc _).alloc _)⟩, ((((Ext.refl w).alloc _).alloc _).alloc _).alloc _⟩
end

section
open Go.RowKit

theorem and_i64 (S m : Nat) (hS : S < 18446744073709551616) (hm : m ≤ 4) : bits .and .i64 (wrap64 (S : Int)) ((2 ^ m - 1 : Nat) : Int) = ((S % 2 ^ m : Nat) : Int) := by
  have hk : 2 ^ m - 1 < 16 := by
    have : m = 0 ∨ m = 1 ∨ m = 2 ∨ m = 3 ∨ m = 4 := by omega
    rcases this with rfl | rfl | rfl | rfl | rfl <;> omega
  have h1 : (BitVec.ofInt 64 (wrap64 (S : Int))).toNat = S := by
    rw [BitVec.toNat_ofInt]
    unfold wrap64
    omega
  have h2 : (BitVec.ofInt 64 ((2 ^ m - 1 : Nat) : Int)).toNat = 2 ^ m - 1 := by
    rw [BitVec.toNat_ofInt]
    omega
  have h3 : S % 2 ^ m < 16 := by
    have := Nat.mod_lt S (Nat.two_pow_pos m)
    omega
  show IntKind.i64.wrap ((BitVec.ofInt 64 (wrap64 (S : Int)) &&& BitVec.ofInt 64 ((2 ^ m - 1 : Nat) : Int)).toNat : Int) = _
  rw [BitVec.toNat_and, h1, h2, Nat.and_two_pow_sub_one_eq_mod, IntKind.wrap_i64]
  omega
theorem place_val (S m : Nat) {a k : Int} (hS : S < 18446744073709551616) (hm : m ≤ 4) (ha : a = ((2 ^ m : Nat) : Int)) (hk : k = ((2 ^ m - 1 : Nat) : Int)) : wrap64 (a + bits .and .i64 (wrap64 (S : Int)) k) = ((placeK m S : Nat) : Int) := by
  have h3 : S % 2 ^ m < 16 ∧ 2 ^ m ≤ 16 := by
    have h := Nat.mod_lt S (Nat.two_pow_pos m)
    have : m = 0 ∨ m = 1 ∨ m = 2 ∨ m = 3 ∨ m = 4 := by omega
    rcases this with rfl | rfl | rfl | rfl | rfl <;> omega
  rw [ha, hk, and_i64 S m hS hm]
  unfold wrap64 placeK
  omega
set_option maxHeartbeats 1000000 in
theorem place_any (level sum : Nat) (w : World) (hl : level ≤ 4) (hs : sum < 18446744073709551616) :
    Calls Tryz.prog 81 #[.int .i64 (level : Int), .int .u64 (sum : Int)] w fun e w' => e = .returned (.int .i64 (placeK level sum : Int)) ∧ w = w' := by
  have e := and_i64 sum level hs hl
  have : level = 0 ∨ level = 1 ∨ level = 2 ∨ level = 3 ∨ level = 4 := by omega
  rcases this with rfl | rfl | rfl | rfl | rfl
  all_goals
    go_enter Tryz.func81, Tryz.ntmps81
    go_wp2_with fail
    go_ret
    exact ⟨congrArg (fun q => Ending.returned (Value.int .i64 q)) (place_val sum _ hs (by omega) rfl rfl), rfl⟩
theorem placeK_lt (level sum : Nat) (hl : level ≤ 4) : 1 ≤ placeK level sum ∧ placeK level sum < 32 := by
  unfold placeK
  have h := Nat.mod_lt sum (Nat.two_pow_pos level)
  have : level = 0 ∨ level = 1 ∨ level = 2 ∨ level = 3 ∨ level = 4 := by omega
  rcases this with rfl | rfl | rfl | rfl | rfl <;> omega
theorem lenter_any (w : World) (X : Nat → Prop) (d : CId) (sum word : Nat) (tv : Value) (t : Then) (hX : Newer w X) (h : ThenAt w X d tv t) :
    Calls Tryz.prog 238 #[ptrV d.gl, .int .i64 (d.who : Int), .int .u64 (sum : Int), .int .i64 (word : Int), tv] w (ClR (fun w' v => KontAt w' X d v (.enter sum word t)) w) := by
  have hmf := hmfC
  obtain ⟨f, c, rfl⟩ := h.fn
  have H := Lib.hid h
  clear h
  go_enter Tryz.func238, Tryz.ntmps238
  go_wp2_with fail
  go_ret
  exact ⟨_, rfl, ⟨_, _, _, _, _, _, rfl, ⟨(((((RowX.new rfl (hX.not (by omega))).past _).past _).past _).past _), ((((RowX.new (by simp) (hX.not (by omega))).past _).past _).past _)⟩, ((RowX.new (by simp) (hX.not (by omega))).past _), (((RowX.new (by simp) (hX.not (by omega))).past _).past _), (RowX.new (by simp) (hX.not (by omega))), H.out.ext ((((((Ext.refl w).alloc _).alloc _).alloc _).alloc _).alloc _)⟩, ((((((Ext.refl w).alloc _).alloc _).alloc _).alloc _).alloc _)⟩
theorem RowX.drew {w : World} {X : Nat → Prop} {p : Value} {cs : Array Value} (h : RowX w X p cs) : RowX w.drew X p cs := h
theorem pow_wrap {level : Nat} (hl : level ≤ 4) : wrap64 (2 ^ level) = ((2 ^ level : Nat) : Int) := by
  have : level = 0 ∨ level = 1 ∨ level = 2 ∨ level = 3 ∨ level = 4 := by omega
  rcases this with rfl | rfl | rfl | rfl | rfl <;> (rw [IntWalk.wrap64_in _ (by decide)]; rfl)
end

section
open Go.RowKit

/-- a step's outcome in memory: what is next, and the result -/
def OutAt (w : World) (X : Nat → Prop) (d : CId) (nv : Value) (done : Bool) (r : KRep) : KOut → Prop
  | .on k => KontAt w X d nv k ∧ done = false ∧ r = repZ
  | .fin r' => nv = .nilFunc ∧ done = true ∧ r = r'
def OutR (X : Nat → Prop) (d : CId) (out : KOut) (w : World) (e : Ending) (w' : World) : Prop :=
  ∃ nv done r, e = .returned (.tuple #[nv, .agg #[.bool done, .int .i64 (r.er : Int), .bool r.granted, .int .i64 r.left, .int .i64 r.wait, .int .i64 r.ser, .int .i64 r.now]]) ∧ OutAt w' X d nv done r out ∧ Ext w w'
theorem on_out {w : World} {X : Nat → Prop} {d : CId} {k : Kont} {v : Value} (h : KontAt w X d v k) : Calls Tryz.prog 133 #[v] w (OutR X d (.on k) w) :=
  (on_any v w).mono fun _ _ ⟨h1, h2⟩ => ⟨v, false, repZ, h1, ⟨h.ext h2, rfl, rfl⟩, h2⟩
theorem end_out (w : World) (X : Nat → Prop) (d : CId) (r : KRep) : Calls Tryz.prog 178 #[.agg #[.int .i64 (r.er : Int), .bool r.granted, .int .i64 r.left, .int .i64 r.wait, .int .i64 r.ser, .int .i64 r.now]] w (OutR X d (.fin r) w) :=
  (end_any _ _ _ _ _ _ w).mono fun _ _ ⟨h1, h2⟩ => ⟨.nilFunc, true, r, h1, ⟨rfl, rfl, rfl⟩, h2⟩
/-- X, and one block that is a call's own -/
abbrev XG (X : Nat → Prop) (g : Nat) : Nat → Prop := fun i => X i ∨ i = g
theorem kpg {w W : World} {X : Nat → Prop} {g : Nat} (x : Ext w W) (hg : w.heap.size ≤ g) : Kp w W X (XG X g) := Kp.of (S := fun _ => False) (GB.of_ext _ x) (fun _ _ e => e.elim) (fun i hi e => e.resolve_right (by omega))
theorem Newer.xg {w W : World} {X : Nat → Prop} {g : Nat} (h : Newer w X) (x : Ext w W) (hg : g < W.heap.size) : Newer W (XG X g) := fun i hi => hi.elim (fun e => Nat.lt_of_lt_of_le (h i e) x.size) (fun e => e ▸ hg)
theorem gb7 (w : World) (g : Nat) (b0 b1 b2 b3 b4 b5 b6 : Value) : GB w (((((((w.setCell ⟨g, 0, none⟩ b0).setCell ⟨g, 1, none⟩ b1).setCell ⟨g, 2, none⟩ b2).setCell ⟨g, 3, none⟩ b3).setCell ⟨g, 4, none⟩ b4).setCell ⟨g, 5, none⟩ b5).setCell ⟨g, 6, none⟩ b6) (· = g) := (GB.refl w (· = g)).grown (grown7 w g b0 b1 b2 b3 b4 b5 b6) (fun q e => by injection e with e; exact .inl e.symm)
theorem KontAt.xg {w w' : World} {X : Nat → Prop} {g : Nat} {d : CId} {v : Value} {k : Kont} (h : KontAt w (XG X g) d v k) (b : GB w w' (· = g)) : KontAt w' X d v k := h.kp (Kp.of b (fun _ _ e => .inr e) (fun _ _ e => .inl e))
/-- an answer that was made goes on to who asked: stored in a cell that is new -/
theorem out_fin {w w2 : World} {X : Nat → Prop} {d : CId} {out : KOut} {nv : Value} {done : Bool} {r : KRep} {g : Nat} (h : OutAt w2 (XG X g) d nv done r out) (x : Ext w w2) (hg : w.heap.size ≤ g) (b0 b1 b2 b3 b4 b5 b6 : Value) :
    OutR X d out w (.returned (.tuple #[nv, .agg #[.bool done, .int .i64 (r.er : Int), .bool r.granted, .int .i64 r.left, .int .i64 r.wait, .int .i64 r.ser, .int .i64 r.now]])) (((((((w2.setCell ⟨g, 0, none⟩ b0).setCell ⟨g, 1, none⟩ b1).setCell ⟨g, 2, none⟩ b2).setCell ⟨g, 3, none⟩ b3).setCell ⟨g, 4, none⟩ b4).setCell ⟨g, 5, none⟩ b5).setCell ⟨g, 6, none⟩ b6) := by
  have k7 := gb7 w2 g b0 b1 b2 b3 b4 b5 b6
  have x7 := ext7 x hg b0 b1 b2 b3 b4 b5 b6
  refine ⟨nv, done, r, rfl, ?_, x7⟩
  cases out with
  | on k => obtain ⟨a, b, c⟩ := h; exact ⟨KontAt.xg a k7, b, c⟩
  | fin r' => obtain ⟨a, b, c⟩ := h; exact ⟨a, b, c⟩
theorem MThenAt.sv {w : World} {X : Nat → Prop} {d : CId} {sv tv : Value} {t : MThen} (h : MThenAt w X d sv tv t) : sv = .nilFunc ∨ ∃ f c, sv = fnV f c := by
  cases t with
  | leave r => obtain ⟨_, _, _, h0, _⟩ := h; exact .inl h0
  | gone j s g n => obtain ⟨_, _, _, _, _, _, h0, _⟩ := h; exact .inl h0
  | count f c r => obtain ⟨_, _, _, h0, _⟩ := h; exact .inr ⟨_, _, h0⟩
  | serial f c => obtain ⟨_, _, _, _, h0, _⟩ := h; exact .inr ⟨_, _, h0⟩
theorem cmove_k (w : World) (X : Nat → Prop) (d : CId) (word by_ stop : Nat) (sv tv : Value) (t : MThen) (hX : Newer w X) (h : MThenAt w X d sv tv t) :
    Calls Tryz.prog 244 #[ptrV d.xb, .int .i64 (word : Int), .int .u64 (by_ : Int), .int .u64 (stop : Int), sv, tv] w (ClR (fun w' v => KontAt w' X d v (.mv word by_ stop t)) w) := by
  have hmf := hmfC
  obtain ⟨f, c, rfl⟩ := h.fn
  have H := Lib.hid h
  rcases h.sv with rfl | ⟨f2, c2, rfl⟩
  all_goals
    clear h
    go_enter Tryz.func244, Tryz.ntmps244
    go_wp2_with fail
    go_ret
    exact ⟨_, rfl, ⟨_, _, _, _, _, _, _, _, rfl, ((((((RowX.new rfl (hX.not (by omega))).past _).past _).past _).past _).past _), (((((RowX.new (by simp) (hX.not (by omega))).past _).past _).past _).past _), (((RowX.new (by simp) (hX.not (by omega))).past _).past _), ((RowX.new (by simp) (hX.not (by omega))).past _), ((((RowX.new (by simp) (hX.not (by omega))).past _).past _).past _), (RowX.new (by simp) (hX.not (by omega))), H.out.ext (((((((Ext.refl w).alloc _).alloc _).alloc _).alloc _).alloc _).alloc _)⟩, (((((((Ext.refl w).alloc _).alloc _).alloc _).alloc _).alloc _).alloc _)⟩
theorem cback_k (w : World) (X : Nat → Prop) (d : CId) (n nn : Nat) (fi : FuncId) (ci : Array Value) (t : MThen) (hX : Newer w X) (h1 : 1 ≤ n) (h2 : n ≤ 5000) (hnn : 18446744073709551616 - n = nn) (h : ∀ w' q, Ext w w' → BoxX w' X q (fnV fi ci) → MThenAt w' X d .nilFunc (fnV 245 #[q]) t) :
    Calls Tryz.prog 188 #[ptrV d.xb, .int .u64 (n : Int), fnV fi ci] w (ClR (fun w' v => KontAt w' X d v (.mv 32 nn never t)) w) := by
  have hmf := hmfC
  have hw : IntKind.u64.wrap (-(n : Int)) = (nn : Int) := by rw [IntKind.wrap_u64]; omega
  obtain ⟨W, hW⟩ : ∃ W, w.alloc (.cells #[fnV fi ci] 138) = W := ⟨_, rfl⟩
  have xW : Ext w W := by rw [← hW]; exact ((Ext.refl w).alloc _)
  have MV := Lib.hid (cmove_k W X d 32 nn 18446744073709551615 .nilFunc _ t (hX.ext xW) (h W (ptrV w.heap.size) xW (by rw [← hW]; exact (RowX.new rfl (hX.not (by omega))))))
  have XW := Lib.hid xW
  clear h xW
  go_enter Tryz.func188, Tryz.ntmps188
  go_wp2_with fail
  (try rw [hW])
  clear hW
  refine MV.out.mono ?_
  rintro e w1 ⟨v, rfl, hk, hx⟩
  have HK := Lib.hid hk; have HX := Lib.hid hx
  clear hk hx
  go_wp2_with fail
  go_ret
  exact ⟨_, rfl, HK.out, XW.out.trans HX.out⟩
set_option maxHeartbeats 1000000 in
theorem cleave_out (w : World) (X : Nat → Prop) (d : CId) (res : Bool) (r : KRep) (hX : Newer w X) (h7 : w.cell? ⟨d.xb, 7, none⟩ = some (.bool res)) :
    Calls Tryz.prog 249 #[ptrV d.xb, .agg #[.int .i64 (r.er : Int), .bool r.granted, .int .i64 r.left, .int .i64 r.wait, .int .i64 r.ser, .int .i64 r.now]] w (OutR X d (leaveK res r) w) := by
  have hmf := hmfC
  obtain ⟨W, hW⟩ : ∃ W, (w.alloc (.cells #[.int .i64 (r.er : Int), .bool r.granted, .int .i64 r.left, .int .i64 r.wait, .int .i64 r.ser, .int .i64 r.now] 39)).alloc (.cells #[.bool false, .int .i64 0, .bool false, .int .i64 0, .int .i64 0, .int .i64 0, .int .i64 0] 41) = W := ⟨_, rfl⟩
  have xW : Ext w W := by rw [← hW]; exact (((Ext.refl w).alloc _).alloc _)
  have r0 : RowX W (XG X (w.heap.size + 1)) (ptrV w.heap.size) (repV r) := by rw [← hW]; exact (RowX.new (X := XG X (w.heap.size + 1)) rfl (fun e => e.elim (hX.not (Nat.le_refl _)) (by omega))).past _
  have K1 := Lib.hid (show W.heap[w.heap.size + 1]? = some (.cells #[.bool false, .int .i64 0, .bool false, .int .i64 0, .int .i64 0, .int .i64 0, .int .i64 0] 41 (0, 0)) by rw [← hW]; exact blk_newk _ _ (by simp))
  have c0 : W.cell? ⟨w.heap.size, 0, none⟩ = some (.int .i64 (r.er : Int)) := r0.cell 0
  have c1 : W.cell? ⟨w.heap.size, 1, none⟩ = some (.bool r.granted) := r0.cell 1
  have c2 : W.cell? ⟨w.heap.size, 2, none⟩ = some (.int .i64 r.left) := r0.cell 2
  have c3 : W.cell? ⟨w.heap.size, 3, none⟩ = some (.int .i64 r.wait) := r0.cell 3
  have c4 : W.cell? ⟨w.heap.size, 4, none⟩ = some (.int .i64 r.ser) := r0.cell 4
  have c5 : W.cell? ⟨w.heap.size, 5, none⟩ = some (.int .i64 r.now) := r0.cell 5
  have d7 := ext_cell xW h7
  have hXW : Newer W (XG X (w.heap.size + 1)) := hX.xg xW (blk_lt K1.out)
  have XW := Lib.hid xW
  cases res with
  | false =>
    have EN := Lib.hid (end_out W (XG X (w.heap.size + 1)) d r)
    clear r0 xW
    go_enter Tryz.func249, Tryz.ntmps249
    go_wp2_with fail
    (try rw [hW])
    clear hW
    refine EN.out.mono ?_
    rintro e w1 ⟨nv, done, r', rfl, ho, hx⟩
    have HO := Lib.hid ho; have HX := Lib.hid hx
    have K2 := Lib.hid (blk_ext K1.out hx)
    have s0 := blk_cell K2.out 0; have z0 := blk_frozen K2.out 0; have s1 := blk_cell K2.out 1; have z1 := blk_frozen K2.out 1; have s2 := blk_cell K2.out 2; have z2 := blk_frozen K2.out 2; have s3 := blk_cell K2.out 3; have z3 := blk_frozen K2.out 3; have s4 := blk_cell K2.out 4; have z4 := blk_frozen K2.out 4; have s5 := blk_cell K2.out 5; have z5 := blk_frozen K2.out 5; have s6 := blk_cell K2.out 6; have z6 := blk_frozen K2.out 6
    clear ho hx
    go_wp2_with fail
    refine bodyPost_ret (results_tmp_row (p := 5) (u := 4) rfl _ _ (w.heap.size + 1) _ #[.bool done, .int .i64 (r'.er : Int), .bool r'.granted, .int .i64 r'.left, .int .i64 r'.wait, .int .i64 r'.ser, .int .i64 r'.now] (0, 0) _ rfl (row7 K2.out _ _ _ _ _ _ _) Tryz.underlying41 (by rfl) (by kernel_rfl)) rfl ?_
    exact out_fin HO.out (XW.out.trans HX.out) (by omega) _ _ _ _ _ _ _
  | true =>
    have BK := Lib.hid (cback_k W (XG X (w.heap.size + 1)) d 1 never 281 #[ptrV w.heap.size] (.leave r) hXW (by omega) (by omega) rfl (fun w' q x hq => ⟨q, _, _, rfl, rfl, hq, rfl, r0.ext x⟩))
    clear r0 xW
    go_enter Tryz.func249, Tryz.ntmps249
    go_wp2_with fail
    (try rw [hW])
    clear hW
    refine BK.out.mono ?_
    rintro e w1 ⟨v, rfl, hk, hx⟩
    have ON := Lib.hid (on_out hk)
    have X1 := Lib.hid (XW.out.trans hx)
    have K2 := Lib.hid (blk_ext K1.out hx)
    clear hk hx
    go_wp2_with fail
    refine ON.out.mono ?_
    rintro e w2 ⟨nv, done, r', rfl, ho, hx⟩
    have HO := Lib.hid ho; have HX := Lib.hid hx
    have K3 := Lib.hid (blk_ext K2.out hx)
    have s0 := blk_cell K3.out 0; have z0 := blk_frozen K3.out 0; have s1 := blk_cell K3.out 1; have z1 := blk_frozen K3.out 1; have s2 := blk_cell K3.out 2; have z2 := blk_frozen K3.out 2; have s3 := blk_cell K3.out 3; have z3 := blk_frozen K3.out 3; have s4 := blk_cell K3.out 4; have z4 := blk_frozen K3.out 4; have s5 := blk_cell K3.out 5; have z5 := blk_frozen K3.out 5; have s6 := blk_cell K3.out 6; have z6 := blk_frozen K3.out 6
    clear ho hx
    go_wp2_with fail
    refine bodyPost_ret (results_tmp_row (p := 5) (u := 4) rfl _ _ (w.heap.size + 1) _ #[.bool done, .int .i64 (r'.er : Int), .bool r'.granted, .int .i64 r'.left, .int .i64 r'.wait, .int .i64 r'.ser, .int .i64 r'.now] (0, 0) _ rfl (row7 K3.out _ _ _ _ _ _ _) Tryz.underlying41 (by rfl) (by kernel_rfl)) rfl ?_
    exact out_fin HO.out (X1.out.trans HX.out) (by omega) _ _ _ _ _ _ _
end

section
open Go.RowKit

theorem cmove_i (w : World) (X : Nat → Prop) (d : CId) (word by_ stop : Nat) (wi bi si : Int) (sv tv : Value) (t : MThen) (h1 : wi = (word : Int)) (h2 : bi = (by_ : Int)) (h3 : si = (stop : Int)) (hX : Newer w X) (h : MThenAt w X d sv tv t) :
    Calls Tryz.prog 244 #[ptrV d.xb, .int .i64 wi, .int .u64 bi, .int .u64 si, sv, tv] w (ClR (fun w' v => KontAt w' X d v (.mv word by_ stop t)) w) := by
  subst h1 h2 h3
  exact cmove_k w X d word by_ stop sv tv t hX h
set_option maxHeartbeats 1000000 in
theorem cput_k (w : World) (X : Nat → Prop) (d : CId) (f : Found) (n c : Nat) (A : Option Addr) (rs : List CRef) (ce : PCell) (rc : CRef) (r : KRep) (res : Bool) (gx room : Nat) (hX : Newer w X) (hn : f.cells.length = n) (hf : CellsF w X A f.cells rs) (hc : PartsF w X rc ce)
    (h4 : w.cell? ⟨d.xb, 4, none⟩ = some (ptrV gx)) (h7 : w.cell? ⟨d.xb, 7, none⟩ = some (.bool res)) (hr : w.cell? ⟨gx, 1, none⟩ = some (.int .u64 (room : Int))) :
    Calls Tryz.prog 195 #[ptrV d.xb, .agg #[.int .i64 (f.word : Int), .int .u64 (f.v : Int), .slice A n c], .int .i64 (f.at_ : Int), .bool f.there, .agg #[.int .i64 (ce.pol : Int), .slice rc.K ce.key.length rc.kc, .int .i64 ce.tat, .slice rc.H ce.held.length rc.hc], .agg #[.int .i64 (r.er : Int), .bool r.granted, .int .i64 r.left, .int .i64 r.wait, .int .i64 r.ser, .int .i64 r.now]] w (ClR (fun w' v => KontAt w' X d v (putK room res f ce r)) w) := by
  have hmf := hmfC
  obtain ⟨there, Hth⟩ : ∃ b, Hid (f.there = b) := ⟨_, rfl⟩
  subst hn
  rw [Hth.out]
  have HF := Lib.hid hf; have HC := Lib.hid hc
  clear hf hc
  obtain ⟨W, hW⟩ : ∃ W, (((((((w.alloc (.cells #[ptrV d.xb] 203)).alloc (.cells #[.int .i64 (f.word : Int), .int .u64 (f.v : Int), .slice A f.cells.length c] 319)).alloc (.cells #[.int .i64 (f.at_ : Int)] 3)).alloc (.cells #[.bool there] 4)).alloc (.cells #[.int .i64 (ce.pol : Int), .slice rc.K ce.key.length rc.kc, .int .i64 ce.tat, .slice rc.H ce.held.length rc.hc] 62)).alloc (.cells #[.int .i64 (r.er : Int), .bool r.granted, .int .i64 r.left, .int .i64 r.wait, .int .i64 r.ser, .int .i64 r.now] 39)).alloc (.cells #[fnV 255 #[ptrV w.heap.size, ptrV (w.heap.size + 1), ptrV (w.heap.size + 1 + 1), ptrV (w.heap.size + 1 + 1 + 1), ptrV (w.heap.size + 1 + 1 + 1 + 1), ptrV (w.heap.size + 1 + 1 + 1 + 1 + 1)]] 138)) = W := ⟨_, rfl⟩
  have xW : Ext w W := by rw [← hW]; exact ((((((((Ext.refl w).alloc _).alloc _).alloc _).alloc _).alloc _).alloc _).alloc _)
  have PA : PutAt W X d (fnV 255 #[ptrV w.heap.size, ptrV (w.heap.size + 1), ptrV (w.heap.size + 1 + 1), ptrV (w.heap.size + 1 + 1 + 1), ptrV (w.heap.size + 1 + 1 + 1 + 1), ptrV (w.heap.size + 1 + 1 + 1 + 1 + 1)]) f ce r := by
    rw [← hW]
    refine ⟨_, _, _, _, _, _, rfl, (((((((RowX.new rfl (hX.not (by omega))).past _).past _).past _).past _).past _).past _), ⟨A, c, rs, ((((((RowX.new (by simp) (hX.not (by omega))).past _).past _).past _).past _).past _), HF.out.ext ((((((((Ext.refl w).alloc _).alloc _).alloc _).alloc _).alloc _).alloc _).alloc _)⟩, (((((RowX.new (by simp) (hX.not (by omega))).past _).past _).past _).past _), ?_, ⟨rc, (((RowX.new (by simp) (hX.not (by omega))).past _).past _), HC.out.ext ((((((((Ext.refl w).alloc _).alloc _).alloc _).alloc _).alloc _).alloc _).alloc _)⟩, ((RowX.new (by simp) (hX.not (by omega))).past _)⟩
    rw [Hth.out]
    exact ((((RowX.new (by simp) (hX.not (by omega))).past _).past _).past _)
  have r6 : RowX W X (ptrV (w.heap.size + 1 + 1 + 1 + 1 + 1 + 1)) #[fnV 255 #[ptrV w.heap.size, ptrV (w.heap.size + 1), ptrV (w.heap.size + 1 + 1), ptrV (w.heap.size + 1 + 1 + 1), ptrV (w.heap.size + 1 + 1 + 1 + 1), ptrV (w.heap.size + 1 + 1 + 1 + 1 + 1)]] := by rw [← hW]; exact (RowX.new (by simp) (hX.not (by omega)))
  have e0 : W.cell? ⟨w.heap.size, 0, none⟩ = some (ptrV d.xb) := by rw [← hW]; exact ((((((((RowX.new rfl (hX.not (by omega))).past _).past _).past _).past _).past _).past _)).cell 0
  have e3 : W.cell? ⟨w.heap.size + 1 + 1 + 1, 0, none⟩ = some (.bool there) := by rw [← hW]; exact (((((RowX.new (by simp) (hX.not (by omega))).past _).past _).past _)).cell 0
  have e6 : W.cell? ⟨w.heap.size + 1 + 1 + 1 + 1 + 1 + 1, 0, none⟩ = some (fnV 255 #[ptrV w.heap.size, ptrV (w.heap.size + 1), ptrV (w.heap.size + 1 + 1), ptrV (w.heap.size + 1 + 1 + 1), ptrV (w.heap.size + 1 + 1 + 1 + 1), ptrV (w.heap.size + 1 + 1 + 1 + 1 + 1)]) := r6.cell 0
  have d4 := ext_cell xW h4
  have d7 := ext_cell xW h7
  have dr := ext_cell xW hr
  have XW := Lib.hid xW; have PA' := Lib.hid PA
  cases there with
  | true =>
    unfold putK
    rw [if_pos (.inl Hth.out)]
    clear r6 PA xW
    go_enter Tryz.func195, Tryz.ntmps195
    go_upto_region 2 with fail
    (try rw [hW])
    clear hW
    go_wp2_with fail
    go_ret
    exact ⟨_, rfl, PA'.out, XW.out⟩
  | false =>
    cases res with
    | true =>
      unfold putK
      rw [if_pos (.inr rfl)]
      clear r6 PA xW
      go_enter Tryz.func195, Tryz.ntmps195
      go_upto_region 2 with fail
      (try rw [hW])
      clear hW
      go_wp2_with fail
      go_ret
      exact ⟨_, rfl, PA'.out, XW.out⟩
    | false =>
      unfold putK
      rw [if_neg (by rw [Hth.out]; simp)]
      have MV := Lib.hid (cmove_i W.drew X d 32 1 room 32 1 (room : Int) (fnV 257 #[]) (fnV 258 #[ptrV w.heap.size, ptrV (w.heap.size + 1 + 1 + 1 + 1 + 1 + 1)]) (.count f ce r) rfl rfl rfl (hX.ext (xW.trans (Ext.refl W).drew)) ⟨_, _, _, rfl, rfl, by rw [← hW]; exact ((((((((RowX.new rfl (hX.not (by omega))).past _).past _).past _).past _).past _).past _)).drew, RowX.drew r6, PA.ext (Ext.refl W).drew⟩)
      clear r6 PA xW
      go_enter Tryz.func195, Tryz.ntmps195
      go_upto_region 2 with fail
      (try rw [hW])
      clear hW
      go_upto_region 5 with fail
      go_region_held3 (fun w' => w'.cell? ⟨w.heap.size, 0, none⟩ = some (ptrV d.xb) ∧ w'.cell? ⟨d.xb, 4, none⟩ = some (ptrV gx) ∧ w'.cell? ⟨gx, 1, none⟩ = some (.int .u64 (room : Int)))
        (((try go_split_ands); refine ⟨?_, ?_, ?_⟩ <;> first | assumption | (with_reducible exact drew_cell e0) | (with_reducible exact te0) | (with_reducible exact drew_cell te0) | (with_reducible exact cell_past te0 _) | (with_reducible exact drew_cell (cell_past e0 _)) | (with_reducible exact drew_cell d4) | (with_reducible exact td4) | (with_reducible exact drew_cell td4) | (with_reducible exact cell_past td4 _) | (with_reducible exact drew_cell (cell_past d4 _)) | (with_reducible exact drew_cell dr) | (with_reducible exact tdr) | (with_reducible exact drew_cell tdr) | (with_reducible exact cell_past tdr _) | (with_reducible exact drew_cell (cell_past dr _))))
        ((go_at_call 244; (with_reducible refine MV.out.mono ?_); rintro e w2 ⟨v, rfl, hk, hx⟩; have HK := Lib.hid hk; have HX := Lib.hid hx; have te0 := ext_cell ((Ext.refl W).drew.trans hx) e0; have td4 := ext_cell ((Ext.refl W).drew.trans hx) d4; have tdr := ext_cell ((Ext.refl W).drew.trans hx) dr; clear hk hx))
      all_goals
        go_wp2_with fail
        go_ret
        exact ⟨_, rfl, HK.out, XW.out.trans ((Ext.refl W).drew.trans HX.out)⟩
end

section
open Go.RowKit

theorem polsV_len : ∀ P : List Pol, (polsV P).length = P.length * 4
  | [] => rfl
  | p :: P => by
    have := polsV_len P
    unfold polsV at this ⊢
    rw [List.flatMap_cons, List.length_append, this, List.length_cons, Nat.add_mul, Nat.one_mul, Nat.add_comm]
    rfl
theorem polsV_get : ∀ (P : List Pol) (i j : Nat) (p : Pol), P[i]? = some p → j < 4 → (polsV P)[i * 4 + j]? = (polV p)[j]?
  | [], _, _, _, h, _ => by simp at h
  | p0 :: P, 0, j, p, h, hj => by
    simp at h
    subst h
    unfold polsV
    rw [List.flatMap_cons, Nat.zero_mul, Nat.zero_add, List.getElem?_append_left (show j < 4 from hj)]
    exact Array.getElem?_toList
  | p0 :: P, i + 1, j, p, h, hj => by
    have := polsV_get P i j p (by simpa using h) hj
    unfold polsV at this ⊢
    rw [List.flatMap_cons, List.getElem?_append_right (by show 4 ≤ _; omega), ← this]
    congr 1
    show (i + 1) * 4 + j - 4 = _
    omega
theorem polAt_get {P : List Pol} {i : Nat} (h : i < P.length) : P[i]? = some (polAt P i) := getD_some h
/-- a policy of the list, in memory -/
theorem CoRd.pol {w : World} {X : Nat → Prop} {g : CoK} (h : CoRd w X g) {i : Nat} (hi : i < g.P.length) :
    ∃ b off, g.PA = some ⟨b, off, none⟩ ∧ w.cell? ⟨b, off + i * 4, none⟩ = some (.int .u8 ((polAt g.P i).kind : Int)) ∧ w.cell? ⟨b, off + i * 4 + 1, none⟩ = some (.int .i64 (polAt g.P i).T) ∧ w.cell? ⟨b, off + i * 4 + 2, none⟩ = some (.int .i64 (polAt g.P i).Tau) ∧ w.cell? ⟨b, off + i * 4 + 3, none⟩ = some (.int .i64 (polAt g.P i).perm) := by
  have e := fun j (hj : j < 4) => polsV_get g.P i j _ (polAt_get hi) hj
  obtain ⟨b, off, hA, hc⟩ := h.prd (fun e0 => by have := e 0 (by omega); rw [e0] at this; simp [polV] at this)
  refine ⟨b, off, hA, ?_, ?_, ?_, ?_⟩
  · exact hc _ _ (e 0 (by omega))
  · rw [Nat.add_assoc]; exact hc _ _ (e 1 (by omega))
  · rw [Nat.add_assoc]; exact hc _ _ (e 2 (by omega))
  · rw [Nat.add_assoc]; exact hc _ _ (e 3 (by omega))
theorem XAt.cells {w : World} {X : Nat → Prop} {gx who xb : Nat} {x : PCall} {res : Bool} {ser : Int} (h : XAt w X gx who x res ser xb) :
    ∃ K kc, w.cell? ⟨xb, 0, none⟩ = some (.int .u8 (x.op : Int)) ∧ w.cell? ⟨xb, 1, none⟩ = some (.int .i64 (x.pol : Int)) ∧ w.cell? ⟨xb, 2, none⟩ = some (.slice K x.key.length kc) ∧ w.cell? ⟨xb, 3, none⟩ = some (.int .i64 x.n) ∧ w.cell? ⟨xb, 4, none⟩ = some (ptrV gx) ∧ w.cell? ⟨xb, 5, none⟩ = some (.int .i64 (who : Int)) ∧ w.cell? ⟨xb, 6, none⟩ = some (.int .u64 (sumK x.id : Int)) ∧ w.cell? ⟨xb, 7, none⟩ = some (.bool res) ∧ w.cell? ⟨xb, 8, none⟩ = some (.int .i64 ser) ∧
      x.key.length ≤ kc ∧ Rd w K (vals .u8 x.key) ∧ Fz w X K := by
  obtain ⟨t, K, kc, h1, h2, h3, h4⟩ := h
  exact ⟨K, kc, blk_cell h1 0, blk_cell h1 1, blk_cell h1 2, blk_cell h1 3, blk_cell h1 4, blk_cell h1 5, blk_cell h1 6, blk_cell h1 7, blk_cell h1 8, h2, h3, h4⟩
set_option maxHeartbeats 1000000 in
theorem cbegin_k (w : World) (X : Nat → Prop) (g : CoK) (who xb : Nat) (x : PCall) (res : Bool) (ser : Int) (hX : Newer w X) (hx : XAt w X g.gx who x res ser xb) (hg : CoRd w X g) (hp : x.pol < g.P.length) (hpm : g.P.length ≤ 32) :
    Calls Tryz.prog 135 #[ptrV xb] w (ClR (fun w' v => KontAt w' X (cidOf g who xb x) v (.find (sumK x.id) .begin)) w) := by
  have hmf := hmfC
  obtain ⟨b, off, hPA, p0, p1, p2, p3⟩ := hg.pol hp
  obtain ⟨K, kc, x0, x1, x2, x3, x4, x5, x6, x7, x8, -, -, -⟩ := hx.cells
  obtain ⟨W, hW⟩ : ∃ W, (w.alloc (.cells #[ptrV xb] 203)) = W := ⟨_, rfl⟩
  have xW : Ext w W := by rw [← hW]; exact ((Ext.refl w).alloc _)
  have r0 : RowX W X (ptrV w.heap.size) #[ptrV xb] := by rw [← hW]; exact (RowX.new rfl (hX.not (by omega)))
  have e0 : W.cell? ⟨w.heap.size, 0, none⟩ = some (ptrV xb) := r0.cell 0
  have y4 := ext_cell xW x4; have y1 := ext_cell xW x1; have c0 := ext_cell xW hg.c0
  rw [hPA] at c0
  have q0 := ext_cell xW p0; have q1 := ext_cell xW p1; have q2 := ext_cell xW p2; have q3 := ext_cell xW p3
  obtain ⟨W2, hW2⟩ : ∃ W2, (W.alloc (.cells #[.int .u8 ((polAt g.P x.pol).kind : Int), .int .i64 (polAt g.P x.pol).T, .int .i64 (polAt g.P x.pol).Tau, .int .i64 (polAt g.P x.pol).perm] 80)) = W2 := ⟨_, rfl⟩
  have xW2 : Ext W W2 := by rw [← hW2]; exact (Ext.refl W).alloc _
  have hs1 : W.heap.size = w.heap.size + 1 := by rw [← hW]; simp
  have r1 : RowX W2 X (ptrV W.heap.size) (polV (polAt g.P x.pol)) := by rw [← hW2]; exact RowX.new rfl (hX.not (by omega))
  have r0' := r0.ext xW2
  have FD := Lib.hid (fun u (y : Ext W2 u) => lfind_any u X (cidOf g who xb x) (sumK x.id) (fnV 190 #[ptrV w.heap.size, ptrV W.heap.size]) .begin (hX.ext ((xW.trans xW2).trans y)) ⟨_, _, rfl, r0'.ext y, r1.ext y⟩)
  have f0 := ext_cell xW2 e0; have f4 := ext_cell xW2 y4; have f5 := ext_cell (xW.trans xW2) x5; have f6 := ext_cell (xW.trans xW2) x6; have f2 := ext_cell (xW.trans xW2) hg.c2
  have XW := Lib.hid (xW.trans xW2)
  have Hs1 := Lib.hid hs1
  clear hx hg x0 x2 x3 x5 x6 x7 x8 p0 p1 p2 p3 r0 r0' r1 xW xW2 hPA x4 x1 hX hs1
  have e0' := cell_past e0 (.cells #[.int .u8 0, .int .i64 0, .int .i64 0, .int .i64 0] 80); have y4' := cell_past y4 (.cells #[.int .u8 0, .int .i64 0, .int .i64 0, .int .i64 0] 80); have y1' := cell_past y1 (.cells #[.int .u8 0, .int .i64 0, .int .i64 0, .int .i64 0] 80); have c0' := cell_past c0 (.cells #[.int .u8 0, .int .i64 0, .int .i64 0, .int .i64 0] 80); have q0' := cell_past q0 (.cells #[.int .u8 0, .int .i64 0, .int .i64 0, .int .i64 0] 80); have q1' := cell_past q1 (.cells #[.int .u8 0, .int .i64 0, .int .i64 0, .int .i64 0] 80); have q2' := cell_past q2 (.cells #[.int .u8 0, .int .i64 0, .int .i64 0, .int .i64 0] 80); have q3' := cell_past q3 (.cells #[.int .u8 0, .int .i64 0, .int .i64 0, .int .i64 0] 80)
  go_enter Tryz.func135, Tryz.ntmps135
  go_upto_region 1 with fail
  (try rw [hW])
  clear hW
  go_region
  (try rw [hW2])
  clear hW2 e0' y4' y1' c0' q0' q1' q2' q3' e0 y4 y1 c0 q0 q1 q2 q3
  go_upto_region 2 with fail
  go_region_held3 (fun w' => w'.cell? ⟨w.heap.size, 0, none⟩ = some (ptrV xb) ∧ w'.cell? ⟨xb, 4, none⟩ = some (ptrV g.gx) ∧ w'.cell? ⟨g.gx, 2, none⟩ = some (ptrV g.gl) ∧ w'.cell? ⟨xb, 5, none⟩ = some (.int .i64 (who : Int)) ∧ w'.cell? ⟨xb, 6, none⟩ = some (.int .u64 (sumK x.id : Int)))
    (((try go_split_ands); refine ⟨?_, ?_, ?_, ?_, ?_⟩ <;> first | assumption | (with_reducible exact drew_cell f0) | (with_reducible exact tf0) | (with_reducible exact drew_cell tf0) | (with_reducible exact cell_past tf0 _) | (with_reducible exact drew_cell (cell_past f0 _)) | (with_reducible exact drew_cell f4) | (with_reducible exact tf4) | (with_reducible exact drew_cell tf4) | (with_reducible exact cell_past tf4 _) | (with_reducible exact drew_cell (cell_past f4 _)) | (with_reducible exact drew_cell f2) | (with_reducible exact tf2) | (with_reducible exact drew_cell tf2) | (with_reducible exact cell_past tf2 _) | (with_reducible exact drew_cell (cell_past f2 _)) | (with_reducible exact drew_cell f5) | (with_reducible exact tf5) | (with_reducible exact drew_cell tf5) | (with_reducible exact cell_past tf5 _) | (with_reducible exact drew_cell (cell_past f5 _)) | (with_reducible exact drew_cell f6) | (with_reducible exact tf6) | (with_reducible exact drew_cell tf6) | (with_reducible exact cell_past tf6 _) | (with_reducible exact drew_cell (cell_past f6 _))))
    ((go_at_call 179; (with_reducible refine (FD.out _ ((Ext.refl W2).drew.drew)).mono ?_); rintro e w2 ⟨v, rfl, hk, hx⟩; have HK := Lib.hid hk; have HX := Lib.hid hx; have hx2 := (Ext.refl W2).drew.drew.trans hx; have tf0 := ext_cell hx2 f0; have tf4 := ext_cell hx2 f4; have tf2 := ext_cell hx2 f2; have tf5 := ext_cell hx2 f5; have tf6 := ext_cell hx2 f6; clear hk hx hx2))
  all_goals
    go_wp2_with fail
    go_ret
    exact ⟨_, rfl, HK.out, XW.out.trans ((Ext.refl W2).drew.drew.trans HX.out)⟩
end

section
open Go.RowKit

/-- the core went on; X' is what may be written now -/
def CoMov (w : World) (g : CoK) (O C : Nat → Prop) (xb : Nat → Nat) (L : List AccE) (s : KSt) (C' : Nat → Prop) (w' : World) : Prop :=
  CoAt w' g O C' xb L s ∧ GB w w' C ∧ ∀ i, C' i → C i ∨ w.heap.size ≤ i
theorem CoMov.kp {w w' : World} {g : CoK} {O C C' : Nat → Prop} {xb : Nat → Nat} {L : List AccE} {s : KSt} (h : CoMov w g O C xb L s C' w') : Kp w w' (XO C O) (XO C' O) :=
  Kp.of h.2.1 (fun i _ e => .inl e) (fun i hi e => e.imp (fun e => (h.2.2 i e).resolve_right (by omega)) id)
theorem CoGo.mov {w w' : World} {g : CoK} {O C : Nat → Prop} {xb : Nat → Nat} {L : List AccE} {s : KSt} (h : CoGo w g O C xb L s w') : ∃ C', CoMov w g O C xb L s C' w' := h
theorem CoMov.go {w w' : World} {g : CoK} {O C C' : Nat → Prop} {xb : Nat → Nat} {L : List AccE} {s : KSt} (h : CoMov w g O C xb L s C' w') : CoGo w g O C xb L s w' := ⟨C', h⟩
theorem CoMov.ext {w w1 w2 : World} {g : CoK} {O C C' : Nat → Prop} {xb : Nat → Nat} {L : List AccE} {s : KSt} (h : CoMov w g O C xb L s C' w1) (x : Ext w1 w2) : CoMov w g O C xb L s C' w2 := ⟨h.1.ext x, h.2.1.ext x, h.2.2⟩
theorem CoMov.back {w0 w w1 : World} {g : CoK} {O C C' : Nat → Prop} {xb : Nat → Nat} {L : List AccE} {s : KSt} (x : Ext w0 w) (h : CoMov w g O C xb L s C' w1) : CoMov w0 g O C xb L s C' w1 := ⟨h.1, GB.back x h.2.1, fun i hi => (h.2.2 i hi).imp id (Nat.le_trans x.size)⟩
/-- the board was read -/
def LoadK (w : World) (g : CoK) (O C : Nat → Prop) (xb : Nat → Nat) (L : List AccE) (s : KSt) (u n : Nat) (h : List PCell) (e : Ending) (w' : World) : Prop :=
  ∃ A c rs C', e = .returned (.tuple #[.int .u64 (u : Int), .slice A n c]) ∧ CellsF w' (XO C' O) A h rs ∧ CoMov w g O C xb L s C' w'
set_option maxHeartbeats 1000000 in
theorem kload_any (w : World) (g : CoK) (O C : Nat → Prop) (xb : Nat → Nat) (L : List AccE) (s : KSt) (who i u n : Nat) (h : CoAt w g O C xb L s) (hL : L.length ≤ 1000000) (hw : who < 64) (hi : i < 34) (hu : s.ws.getD i 0 = u) (hn : (s.hs.getD i []).length = n) :
    Calls Tryz.prog 174 #[ptrV g.gb, .int .i64 (who : Int), .int .i64 (i : Int)] w (LoadK w g O C xb (L ++ [⟨who, 1, i, u, 0, true⟩]) s u n (s.hs.getD i [])) := by
  obtain ⟨Fm, hm, hwl, b0, b1, hh, -, nFb, nFh, go1, -, -⟩ := h.swap
  obtain ⟨A, c, rs, g0, hE⟩ := hh i hi
  have hx : s.ws[i]? = some u := by rw [← hu]; exact getD_some (by rw [hwl]; exact hi)
  have LD := Lib.hid (load_ok w Fm g.gm s.ws (s.clk : Int) L who i u hm hL (by omega) (by omega) hx)
  have HE := Lib.hid hE; have G1 := Lib.hid go1
  rw [hn] at g0
  clear h hm hE go1 hh hx hwl hu hn
  have hi0 : (i : Int) < 34 := by omega
  go_enter Tryz.func174, Tryz.ntmps174
  go_wp2_with fail
  refine LD.out.mono ?_
  rintro e w1 ⟨rfl, hg⟩
  have HG := Lib.hid hg
  obtain ⟨_, _, k, _⟩ := hg
  have c0 := k.cell b0 nFb; have c1 := k.cell b1 nFb; have d0 := k.cell g0 nFh
  clear b0 b1 g0 k
  go_wp2_with fail
  go_region
  go_wp2_with fail
  go_ret2
  obtain ⟨C', hmv⟩ := (G1.out _ _ HG.out).mov
  have hmv' := hmv.ext (Ext.refl w1).drew
  exact ⟨A, c, rs, C', ret_t2 rfl rfl, HE.out.kp hmv'.kp, hmv'⟩
theorem kload_i (w : World) (g : CoK) (O C : Nat → Prop) (xb : Nat → Nat) (L : List AccE) (s : KSt) (who i u n : Nat) (ii : Int) (h : CoAt w g O C xb L s) (hL : L.length ≤ 1000000) (hw : who < 64) (hi : i < 34) (hu : s.ws.getD i 0 = u) (hn : (s.hs.getD i []).length = n) (hii : ii = (i : Int)) :
    Calls Tryz.prog 174 #[ptrV g.gb, .int .i64 (who : Int), .int .i64 ii] w (LoadK w g O C xb (L ++ [⟨who, 1, i, u, 0, true⟩]) s u n (s.hs.getD i [])) := by
  subst hii
  exact kload_any w g O C xb L s who i u n h hL hw hi hu hn
set_option maxHeartbeats 1000000 in
theorem kswap_hit (w : World) (g : CoK) (O C : Nat → Prop) (xb : Nat → Nat) (L : List AccE) (s : KSt) (who i u new n c : Nat) (ni : Int) (A : Option Addr) (l : List PCell) (rs : List CRef) (h : CoAt w g O C xb L s) (hL : L.length ≤ 1000000) (hw : who < 64) (hi : i < 34) (hu : s.ws.getD i 0 = u) (hni : ni = (new : Int)) (hn : l.length = n) (hc : CellsF w (XO C O) A l rs) :
    Calls Tryz.prog 80 #[ptrV g.gb, .int .i64 (who : Int), .int .i64 (i : Int), .int .u64 (u : Int), .int .u64 ni, .slice A n c] w fun e w' => e = .returned (.bool true) ∧ CoGo w g O C xb (L ++ [⟨who, 2, i, u, new, true⟩]) { s with ws := s.ws.set i new, hs := s.hs.set i l } w' := by
  obtain ⟨Fm, hm, hwl, b0, b1, hh, ⟨t, cs, hb⟩, nFb, nFh, -, go2, -⟩ := h.swap
  obtain ⟨A0, c0, rs0, g0, -⟩ := hh i hi
  have hx : s.ws[i]? = some u := by rw [← hu]; exact getD_some (by rw [hwl]; exact hi)
  subst hni hn
  have LD := Lib.hid (swap_hit w Fm g.gm s.ws (s.clk : Int) L who i u new hm hL (by omega) (by omega) hx)
  have G2 := Lib.hid (fun w1 hg => go2 (L ++ [⟨who, 2, i, u, new, true⟩]) w1 i new A c l rs hi hg hc)
  clear h hm go2 hh hx hwl hu hc
  have hi0 : (i : Int) < 34 := by omega
  obtain ⟨n, Hn⟩ : ∃ n, Hid (l.length = n) := ⟨_, rfl⟩
  rw [Hn.out]
  go_enter Tryz.func80, Tryz.ntmps80
  go_wp2_with fail
  refine LD.out.mono ?_
  rintro e w1 ⟨rfl, hg⟩
  have HG := Lib.hid (G2.out w1 hg)
  obtain ⟨_, _, k, _⟩ := hg
  have c0 := k.cell b0 nFb; have c1 := k.cell b1 nFb; have d0 := k.cell g0 nFh; have fz := blk_frozen (k.blk hb nFh) i
  clear b0 b1 g0 k hb
  go_wp2_with fail
  go_ret
  refine ⟨rfl, ?_⟩
  have := HG.out
  rw [Hn.out] at this
  exact this
end

section
open Go.RowKit

/-- the cells that a call's functions read, at one glance -/
theorem CoAt.call {w : World} {g : CoK} {O C : Nat → Prop} {xb : Nat → Nat} {L : List AccE} {s : KSt} (h : CoAt w g O C xb L s) {who : Nat} (hw : who < 64) {x : PCall} {res : Bool} {ser : Int} {k : Kont} (hc : s.call who = .run x res ser k) :
    w.cell? ⟨xb who, 4, none⟩ = some (ptrV g.gx) ∧ w.cell? ⟨xb who, 5, none⟩ = some (.int .i64 (who : Int)) ∧ w.cell? ⟨xb who, 7, none⟩ = some (.bool res) ∧ w.cell? ⟨xb who, 8, none⟩ = some (.int .i64 ser) ∧ w.cell? ⟨xb who, 3, none⟩ = some (.int .i64 x.n) ∧ w.cell? ⟨xb who, 0, none⟩ = some (.int .u8 (x.op : Int)) := by
  obtain ⟨K, kc, x0, x1, x2, x3, x4, x5, x6, x7, x8, -, -, -⟩ := (h.xat hw hc).1.cells
  exact ⟨x4, x5, x7, x8, x3, x0⟩
set_option maxHeartbeats 1000000 in
theorem xload_any (w : World) (g : CoK) (O C : Nat → Prop) (xb : Nat → Nat) (L : List AccE) (s : KSt) (who i u : Nat) (x : PCall) (res : Bool) (ser : Int) (k : Kont) (h : CoAt w g O C xb L s) (hc : s.call who = .run x res ser k) (hL : L.length ≤ 1000000) (hw : who < 64) (hi : i < 34) (hu : s.ws.getD i 0 = u) :
    Calls Tryz.prog 132 #[ptrV (xb who), .int .i64 (i : Int)] w fun e w' => e = .returned (.int .u64 (u : Int)) ∧ CoGo w g O C xb (L ++ [⟨who, 1, i, u, 0, true⟩]) s w' := by
  obtain ⟨y4, y5, -, -, -, -⟩ := h.call hw hc
  have c2 := h.rd.c2; have l0 := h.rd.l0
  have LD := Lib.hid (kload_any w.drew g O C xb L s who i u _ (h.ext (Ext.refl w).drew) hL hw hi hu rfl)
  have Hc := Lib.hid hc
  obtain ⟨n, Hn⟩ : ∃ n, Hid ((s.hs.getD i []).length = n) := ⟨_, rfl⟩
  rw [Hn.out] at LD
  obtain ⟨xw, Hx⟩ : ∃ q, Hid (xb who = q) := ⟨_, rfl⟩
  rw [Hx.out] at y4 y5 ⊢
  clear h hc hu
  go_enter Tryz.func132, Tryz.ntmps132
  go_upto_region 1 with fail
  go_cut [5] (fun v5 wd => v5 = .int .u64 (u : Int) ∧ CoGo w g O C xb (L ++ [⟨who, 1, i, u, 0, true⟩]) s wd)
  case first =>
    go_region_held3 (fun w' => w'.cell? ⟨xw, 4, none⟩ = some (ptrV g.gx) ∧ w'.cell? ⟨xw, 5, none⟩ = some (.int .i64 (who : Int)) ∧ w'.cell? ⟨g.gx, 2, none⟩ = some (ptrV g.gl) ∧ w'.cell? ⟨g.gl, 0, none⟩ = some (ptrV g.gb))
      (((try go_split_ands); exact ⟨(by first | (with_reducible exact drew_cell y4) | (with_reducible exact y4) | (with_reducible exact ty4) | (with_reducible exact drew_cell ty4) | assumption | (with_reducible exact cell_past ty4 _) | (with_reducible exact drew_cell (cell_past y4 _))), (by first | (with_reducible exact drew_cell y5) | (with_reducible exact y5) | (with_reducible exact ty5) | (with_reducible exact drew_cell ty5) | assumption | (with_reducible exact cell_past ty5 _) | (with_reducible exact drew_cell (cell_past y5 _))), (by first | (with_reducible exact drew_cell c2) | (with_reducible exact c2) | (with_reducible exact tc2) | (with_reducible exact drew_cell tc2) | assumption | (with_reducible exact cell_past tc2 _) | (with_reducible exact drew_cell (cell_past c2 _))), (by first | (with_reducible exact drew_cell l0) | (with_reducible exact l0) | (with_reducible exact tl0) | (with_reducible exact drew_cell tl0) | assumption | (with_reducible exact cell_past tl0 _) | (with_reducible exact drew_cell (cell_past l0 _)))⟩))
      ((go_at_call 174; (with_reducible refine LD.out.mono ?_); rintro e w2 ⟨A, c, rs, C', rfl, -, hm⟩; have HM := Lib.hid (hm.back (Ext.refl w).drew).go; obtain ⟨ty4', ty5', -, -, -, -⟩ := hm.1.call hw Hc.out; rw [Hx.out] at ty4' ty5'; have ty4 := ty4'; have ty5 := ty5'; have tc2 := hm.1.rd.c2; have tl0 := hm.1.rd.l0; clear hm ty4' ty5'))
    all_goals
      go_wp2_with fail
      go_meet
      exact ⟨rfl, HM.out⟩
  case rest =>
    obtain ⟨rfl, hg⟩ := hcut
    have HG := Lib.hid hg
    clear hg
    go_wp2_with fail
    go_ret
    exact ⟨rfl, HG.out⟩
set_option maxHeartbeats 1000000 in
theorem xswap_gen (w : World) (g : CoK) (O C : Nat → Prop) (xb : Nat → Nat) (L L' : List AccE) (s s' : KSt) (who i old : Nat) (ni : Int) (x : PCall) (res : Bool) (ser : Int) (k : Kont) (done : Bool) (h : CoAt w g O C xb L s) (hc : s.call who = .run x res ser k) (hc' : s'.call who = .run x res ser k) (hw : who < 64)
    (SW : ∀ u, Ext w u → Calls Tryz.prog 80 #[ptrV g.gb, .int .i64 (who : Int), .int .i64 (i : Int), .int .u64 (old : Int), .int .u64 ni, .slice none 0 0] u fun e w' => e = .returned (.bool done) ∧ CoGo u g O C xb L' s' w') :
    Calls Tryz.prog 279 #[ptrV (xb who), .int .i64 (i : Int), .int .u64 (old : Int), .int .u64 ni] w fun e w' => e = .returned (.bool done) ∧ CoGo w g O C xb L' s' w' := by
  obtain ⟨y4, y5, -, -, -, -⟩ := h.call hw hc
  have c2 := h.rd.c2; have l0 := h.rd.l0
  have LD := Lib.hid (SW w.drew (Ext.refl w).drew)
  have Hc := Lib.hid hc'
  obtain ⟨xw, Hx⟩ : ∃ q, Hid (xb who = q) := ⟨_, rfl⟩
  rw [Hx.out] at y4 y5 ⊢
  clear h hc hc' SW
  go_enter Tryz.func279, Tryz.ntmps279
  go_upto_region 1 with fail
  go_cut [8] (fun v8 wd => v8 = .bool done ∧ CoGo w g O C xb L' s' wd)
  case first =>
    go_region_held3 (fun w' => w'.cell? ⟨xw, 4, none⟩ = some (ptrV g.gx) ∧ w'.cell? ⟨xw, 5, none⟩ = some (.int .i64 (who : Int)) ∧ w'.cell? ⟨g.gx, 2, none⟩ = some (ptrV g.gl) ∧ w'.cell? ⟨g.gl, 0, none⟩ = some (ptrV g.gb))
      (((try go_split_ands); exact ⟨(by first | (with_reducible exact drew_cell y4) | (with_reducible exact y4) | (with_reducible exact ty4) | (with_reducible exact drew_cell ty4) | assumption | (with_reducible exact cell_past ty4 _) | (with_reducible exact drew_cell (cell_past y4 _))), (by first | (with_reducible exact drew_cell y5) | (with_reducible exact y5) | (with_reducible exact ty5) | (with_reducible exact drew_cell ty5) | assumption | (with_reducible exact cell_past ty5 _) | (with_reducible exact drew_cell (cell_past y5 _))), (by first | (with_reducible exact drew_cell c2) | (with_reducible exact c2) | (with_reducible exact tc2) | (with_reducible exact drew_cell tc2) | assumption | (with_reducible exact cell_past tc2 _) | (with_reducible exact drew_cell (cell_past c2 _))), (by first | (with_reducible exact drew_cell l0) | (with_reducible exact l0) | (with_reducible exact tl0) | (with_reducible exact drew_cell tl0) | assumption | (with_reducible exact cell_past tl0 _) | (with_reducible exact drew_cell (cell_past l0 _)))⟩))
      ((go_at_call 80; (with_reducible refine LD.out.mono ?_); rintro e w2 ⟨rfl, hg⟩; have HM := Lib.hid (hg.back (Ext.refl w).drew); obtain ⟨C', hm⟩ := hg.mov; obtain ⟨ty4', ty5', -, -, -, -⟩ := hm.1.call hw Hc.out; rw [Hx.out] at ty4' ty5'; have ty4 := ty4'; have ty5 := ty5'; have tc2 := hm.1.rd.c2; have tl0 := hm.1.rd.l0; clear hm ty4' ty5' hg))
    all_goals
      go_wp2_with fail
      go_meet
      exact ⟨rfl, HM.out⟩
  case rest =>
    obtain ⟨rfl, hg⟩ := hcut
    have HG := Lib.hid hg
    clear hg
    go_wp2_with fail
    go_ret
    exact ⟨rfl, HG.out⟩
end

section
open Go.RowKit

/-- what a pending call's function leaves: the next function is not yet stored -/
def SK (w : World) (g : CoK) (O C : Nat → Prop) (xb : Nat → Nat) (who N : Nat) (x : PCall) (s1 : KSt) (out : KOut) (e : Ending) (w' : World) : Prop :=
  ∃ nv done r C' L', L'.length ≤ N ∧ e = .returned (.tuple #[nv, .agg #[.bool done, .int .i64 (r.er : Int), .bool r.granted, .int .i64 r.left, .int .i64 r.wait, .int .i64 r.ser, .int .i64 r.now]]) ∧ CoMov w g O C xb L' s1 C' w' ∧ OutAt w' (XO C' O) (cidOf g who (xb who) x) nv done r out
theorem KontAt.xo {w w' : World} {C O : Nat → Prop} {gg : Nat} {d : CId} {v : Value} {k : Kont} (h : KontAt w (XO C (XG O gg)) d v k) (b : GB w w' (· = gg)) : KontAt w' (XO C O) d v k := h.kp (Kp.of b (fun _ _ e => .inr (.inr e)) (fun _ _ e => e.imp id .inl))
/-- one more block that others may write -/
theorem CoAt.xg {w W : World} {g : CoK} {O C : Nat → Prop} {xb : Nat → Nat} {L : List AccE} {s : KSt} (h : CoAt w g O C xb L s) (x : Ext w W) {gg : Nat} (h1 : w.heap.size ≤ gg) (h2 : gg < W.heap.size) : CoAt W g (XG O gg) C xb L s :=
  h.far (GB.of_ext (fun _ => False) x) (fun _ _ e => e.elim) (fun i hi e => e.resolve_right (by omega)) (fun i e => e.elim (fun e => Nat.lt_of_lt_of_le (h.ol i e) x.size) (fun e => e ▸ h2))
theorem CoAt.newer {w : World} {g : CoK} {O C : Nat → Prop} {xb : Nat → Nat} {L : List AccE} {s : KSt} (h : CoAt w g O C xb L s) : Newer w (XO C O) := fun i hi => hi.elim (h.lt i) (h.ol i)
/-- what was captured, behind an access -/
theorem CoMov.kpg {w W w2 : World} {g : CoK} {O C C' : Nat → Prop} {xb : Nat → Nat} {L : List AccE} {s : KSt} {gg : Nat} (h : CoMov W g (XG O gg) C xb L s C' w2) (x : Ext w W) (hg : w.heap.size ≤ gg) : Kp w w2 (XO C O) (XO C' (XG O gg)) :=
  (Kp.of (S := fun _ => False) (GB.of_ext _ x) (fun _ _ e => e.elim) (fun i hi e => e.imp id (fun e => e.resolve_right (by omega))) : Kp w W (XO C O) (XO C (XG O gg))).trans h.kp
/-- the stores into the cell of the result -/
theorem CoMov.fin {w W w2 w7 : World} {g : CoK} {O C C' : Nat → Prop} {xb : Nat → Nat} {L : List AccE} {s : KSt} {gg : Nat} (h : CoMov W g (XG O gg) C xb L s C' w2) (x : Ext w W) (hg : w.heap.size ≤ gg) (k : GB w2 w7 (· = gg)) : CoMov w g O C xb L s C' w7 := by
  obtain ⟨h1, h2, h3⟩ := h
  exact ⟨h1.far k (fun i _ e => .inr e) (fun i _ e => .inl e) (fun i e => Nat.lt_of_lt_of_le (h1.ol i (.inl e)) k.size), (GB.back x h2).trans k (fun i e => .inr (e ▸ hg)), fun i hi => (h3 i hi).imp id (Nat.le_trans x.size)⟩
theorem sk_fin {w W w2 : World} {g : CoK} {O C C' : Nat → Prop} {xb : Nat → Nat} {who N : Nat} {x : PCall} {L : List AccE} {s1 : KSt} {out : KOut} {nv : Value} {done : Bool} {r : KRep} {gg : Nat} (hL : L.length ≤ N) (xW : Ext w W) (hg : w.heap.size ≤ gg) (hm : CoMov W g (XG O gg) C xb L s1 C' w2) (ho : OutAt w2 (XO C' (XG O gg)) (cidOf g who (xb who) x) nv done r out) (b0 b1 b2 b3 b4 b5 b6 : Value) :
    SK w g O C xb who N x s1 out (.returned (.tuple #[nv, .agg #[.bool done, .int .i64 (r.er : Int), .bool r.granted, .int .i64 r.left, .int .i64 r.wait, .int .i64 r.ser, .int .i64 r.now]])) (((((((w2.setCell ⟨gg, 0, none⟩ b0).setCell ⟨gg, 1, none⟩ b1).setCell ⟨gg, 2, none⟩ b2).setCell ⟨gg, 3, none⟩ b3).setCell ⟨gg, 4, none⟩ b4).setCell ⟨gg, 5, none⟩ b5).setCell ⟨gg, 6, none⟩ b6) := by
  have k7 := gb7 w2 gg b0 b1 b2 b3 b4 b5 b6
  refine ⟨nv, done, r, C', L, hL, rfl, hm.fin xW hg k7, ?_⟩
  cases out with
  | on k => obtain ⟨a, b, c⟩ := ho; exact ⟨KontAt.xo a k7, b, c⟩
  | fin r' => obtain ⟨a, b, c⟩ := ho; exact ⟨a, b, c⟩
theorem blk_drew' {w : World} {g : Nat} {o : Obj} (h : w.heap[g]? = some o) : w.drew.heap[g]? = some o := h
theorem out_on {w : World} {X : Nat → Prop} {d : CId} {v : Value} {k : Kont} (h : KontAt w X d v k) : OutAt w X d v false repZ (.on k) := ⟨h, rfl, rfl⟩
end

section
open Go.RowKit

def outCall (x : PCall) (res : Bool) (ser : Int) : KOut → KCall
  | .on k => .run x res ser k
  | .fin _ => .idle
def outDone : KOut → Bool
  | .on _ => false
  | .fin _ => true
def outRep : KOut → KRep
  | .on _ => repZ
  | .fin r => r
/-- two blocks of a step's own -/
abbrev XG2 (O : Nat → Prop) (b : Nat) : Nat → Prop := fun i => O i ∨ i = b ∨ i = b + 1
/-- the pending function was called, what is next is stored -/
def KMid (w : World) (g : CoK) (O C : Nat → Prop) (xb : Nat → Nat) (N : Nat) (s2 : KSt) (done : Bool) (r : KRep) (wd : World) : Prop :=
  ∃ L' C', L'.length ≤ N ∧ CoAt wd g (XG2 O w.heap.size) C' xb L' s2 ∧ GB w wd C ∧ (∀ i, C' i → C i ∨ w.heap.size ≤ i) ∧ wd.heap[w.heap.size + 1]? = some (.cells #[.bool done, .int .i64 (r.er : Int), .bool r.granted, .int .i64 r.left, .int .i64 r.wait, .int .i64 r.ser, .int .i64 r.now] 41 (0, 0)) ∧ wd.heap[w.heap.size]? = some (.cells #[.bool false, .int .i64 0, .bool false, .int .i64 0, .int .i64 0, .int .i64 0, .int .i64 0] 41 (0, 0))
def StepK (w : World) (g : CoK) (O C : Nat → Prop) (xb : Nat → Nat) (N : Nat) (s2 : KSt) (v : Value) (e : Ending) (w' : World) : Prop :=
  ∃ L' C', L'.length ≤ N ∧ e = .returned v ∧ CoMov w g O C xb L' s2 C' w'
theorem CoAt.xg2 {w W : World} {g : CoK} {O C : Nat → Prop} {xb : Nat → Nat} {L : List AccE} {s : KSt} (h : CoAt w g O C xb L s) (x : Ext w W) (h2 : w.heap.size + 1 < W.heap.size) : CoAt W g (XG2 O w.heap.size) C xb L s :=
  h.far (GB.of_ext (fun _ => False) x) (fun _ _ e => e.elim) (fun i hi e => e.elim id (fun e => by omega)) (fun i e => e.elim (fun e => Nat.lt_of_lt_of_le (h.ol i e) x.size) (fun e => by omega))
theorem kmid_mk {w W w3 : World} {g : CoK} {O C C' : Nat → Prop} {xb : Nat → Nat} {who N : Nat} {L' : List AccE} {s1 : KSt} {x : PCall} {res : Bool} {ser : Int} {k0 : Kont} {out : KOut} {nv : Value} {done : Bool} {r : KRep} (xW : Ext w W) (_hW2 : w.heap.size + 1 < W.heap.size) (hlt : ∀ i, C i → i < w.heap.size) (hw : who < 64) (hl : L'.length ≤ N) (hm : CoMov W g (XG2 O w.heap.size) C xb L' s1 C' w3) (hc1 : s1.call who = .run x res ser k0)
    (ho : OutAt w3 (XO C' (XG2 O w.heap.size)) (cidOf g who (xb who) x) nv done r out)
    (K1 : W.heap[w.heap.size + 1]? = some (.cells #[.bool false, .int .i64 0, .bool false, .int .i64 0, .int .i64 0, .int .i64 0, .int .i64 0] 41 (0, 0))) (K0 : W.heap[w.heap.size]? = some (.cells #[.bool false, .int .i64 0, .bool false, .int .i64 0, .int .i64 0, .int .i64 0, .int .i64 0] 41 (0, 0))) :
    KMid w g O C xb N (s1.put who (outCall x res ser out)) done r ((((((((w3.setCell ⟨g.gx, 3 + who, none⟩ nv).setCell ⟨w.heap.size + 1, 0, none⟩ (.bool done)).setCell ⟨w.heap.size + 1, 1, none⟩ (.int .i64 (r.er : Int))).setCell ⟨w.heap.size + 1, 2, none⟩ (.bool r.granted)).setCell ⟨w.heap.size + 1, 3, none⟩ (.int .i64 r.left)).setCell ⟨w.heap.size + 1, 4, none⟩ (.int .i64 r.wait)).setCell ⟨w.heap.size + 1, 5, none⟩ (.int .i64 r.ser)).setCell ⟨w.heap.size + 1, 6, none⟩ (.int .i64 r.now)) := by
  obtain ⟨f, -, -, hgx, -, hput⟩ := hm.1.pend hw
  have hp : PendK w3 (XO C' (XG2 O w.heap.size)) g who (xb who) nv (outCall x res ser out) := by
    cases out with
    | on k => exact ⟨(hm.1.xat hw hc1).1, ho.1⟩
    | fin r' => exact ho.1
  obtain ⟨C2, hm2⟩ := (hput nv _ hp (fun _ => by rw [hc1]; rfl)).mov
  have hm3 : CoMov W g (XG2 O w.heap.size) C xb L' (s1.put who (outCall x res ser out)) C2 (w3.setCell ⟨g.gx, 3 + who, none⟩ nv) := ⟨hm2.1, hm.2.1.trans hm2.2.1 hm.2.2, fun i hi => (hm2.2.2 i hi).elim (hm.2.2 i) (fun e => .inr (Nat.le_trans hm.2.1.size e))⟩
  have k7 := gb7 (w3.setCell ⟨g.gx, 3 + who, none⟩ nv) (w.heap.size + 1) (.bool done) (.int .i64 (r.er : Int)) (.bool r.granted) (.int .i64 r.left) (.int .i64 r.wait) (.int .i64 r.ser) (.int .i64 r.now)
  have hn1 : ¬ C (w.heap.size + 1) := fun e => by have := hlt _ e; omega
  have hn0 : ¬ C w.heap.size := fun e => by have := hlt _ e; omega
  have r1 := row7 (hm3.2.1.blk K1 hn1) (.bool done) (.int .i64 (r.er : Int)) (.bool r.granted) (.int .i64 r.left) (.int .i64 r.wait) (.int .i64 r.ser) (.int .i64 r.now)
  have r0 := k7.blk (hm3.2.1.blk K0 hn0) (by omega)
  exact ⟨L', C2, hl, hm3.1.far k7 (fun i _ e => .inr (.inr e)) (fun i _ e => e) (fun i e => Nat.lt_of_lt_of_le (hm3.1.ol i e) k7.size), (GB.back xW hm3.2.1).trans k7 (fun i e => .inr (by omega)), fun i hi => (hm3.2.2 i hi).imp id (fun e => Nat.le_trans xW.size e), r1, r0⟩
theorem kmid_fin {w wd : World} {g : CoK} {O C : Nat → Prop} {xb : Nat → Nat} {N : Nat} {s2 : KSt} {done : Bool} {r : KRep} (h : KMid w g O C xb N s2 done r wd) (v : Value) (b0 b1 b2 b3 b4 b5 b6 : Value) :
    StepK w g O C xb N s2 v (.returned v) (((((((wd.setCell ⟨w.heap.size, 0, none⟩ b0).setCell ⟨w.heap.size, 1, none⟩ b1).setCell ⟨w.heap.size, 2, none⟩ b2).setCell ⟨w.heap.size, 3, none⟩ b3).setCell ⟨w.heap.size, 4, none⟩ b4).setCell ⟨w.heap.size, 5, none⟩ b5).setCell ⟨w.heap.size, 6, none⟩ b6) := by
  obtain ⟨L', C', hl, h1, h2, h3, -, -⟩ := h
  have k7 := gb7 wd w.heap.size b0 b1 b2 b3 b4 b5 b6
  exact ⟨L', C', hl, rfl, h1.far k7 (fun i _ e => .inr (.inl e)) (fun i _ e => .inl e) (fun i e => Nat.lt_of_lt_of_le (h1.ol i (.inl e)) k7.size), h2.trans k7 (fun i e => .inr (by omega)), h3⟩
set_option maxHeartbeats 4000000 in
set_option maxRecDepth 100000 in
theorem kcalls_run (w : World) (g : CoK) (O C : Nat → Prop) (xb : Nat → Nat) (L : List AccE) (s s1 : KSt) (who N : Nat) (x : PCall) (res res' : Bool) (ser ser' : Int) (k k0 : Kont) (out : KOut) (fn : FuncId) (caps : Array Value) (h : CoAt w g O C xb L s) (hc : s.call who = .run x res ser k) (hw : who < 64)
    (hv : w.cell? ⟨g.gx, 3 + who, none⟩ = some (fnV fn caps)) (hen : ∀ u : World, (callFunc fn caps).run Tryz.prog u = .ok (.enter fn caps) u) (hc1 : s1.call who = .run x res' ser' k0)
    (CL : ∀ u O', CoAt u g O' C xb L s → KontAt u (XO C O') (cidOf g who (xb who) x) (fnV fn caps) k → Calls Tryz.prog fn caps u (SK u g O' C xb who N x s1 out)) :
    Calls Tryz.prog 51 #[.pointer (some ⟨g.gx, 3, none⟩), .int .i64 (who : Int)] w (StepK w g O C xb N (s1.put who (outCall x res' ser' out)) (.agg #[.bool (outDone out), .int .i64 ((outRep out).er : Int), .bool (outRep out).granted, .int .i64 (outRep out).left, .int .i64 (outRep out).wait, .int .i64 (outRep out).ser, .int .i64 (outRep out).now])) := by
  obtain ⟨W, hW⟩ : ∃ W, ((w.alloc (.cells #[.bool false, .int .i64 0, .bool false, .int .i64 0, .int .i64 0, .int .i64 0, .int .i64 0] 41)).alloc (.cells #[.bool false, .int .i64 0, .bool false, .int .i64 0, .int .i64 0, .int .i64 0, .int .i64 0] 41)) = W := ⟨_, rfl⟩
  have xW : Ext w W := by rw [← hW]; exact (((Ext.refl w).alloc _).alloc _)
  have K0 := Lib.hid (show W.heap[w.heap.size]? = some (.cells #[.bool false, .int .i64 0, .bool false, .int .i64 0, .int .i64 0, .int .i64 0, .int .i64 0] 41 (0, 0)) by rw [← hW]; exact blk_past (blk_new w _) _)
  have K1 := Lib.hid (show W.heap[w.heap.size + 1]? = some (.cells #[.bool false, .int .i64 0, .bool false, .int .i64 0, .int .i64 0, .int .i64 0, .int .i64 0] 41 (0, 0)) by rw [← hW]; exact blk_newk _ _ (by simp))
  have hW2 := blk_lt K1.out
  have hA := (h.xg2 xW hW2).ext (Ext.refl W).drew
  obtain ⟨f9, hf9, -, -, hp9, -⟩ := hA.pend hw
  have dW : W.cell? ⟨g.gx, 3 + who, none⟩ = some (fnV fn caps) := ext_cell xW hv
  have e9 : f9 = fnV fn caps := by
    have : W.cell? ⟨g.gx, 3 + who, none⟩ = some f9 := hf9
    rw [dW] at this
    injection this with this
    exact this.symm
  subst e9
  rw [hc] at hp9
  have HCL := Lib.hid (CL W.drew _ hA hp9.2)
  have HLT := Lib.hid h.lt
  have hgl : g.gx < w.heap.size := World.block_lt_of_cell? w _ hv
  have XW := Lib.hid xW; have HW := Lib.hid hW
  have hwi : (who : Int) < 64 := by omega
  have n0 : ¬ C w.heap.size := fun e => Nat.lt_irrefl _ (HLT.out _ e)
  have n1 : ¬ C (w.heap.size + 1) := fun e => by have := HLT.out _ e; omega
  have Hc1 := Lib.hid hc1
  clear h hA CL hv hp9 hf9 hc hW hc1 xW
  cases out with
  | fin r0 =>
    go_enter Tryz.func51, Tryz.ntmps51
    go_upto_region 2 with fail
    (try rw [HW.out])
    clear HW
    go_cut [] (fun wd => KMid w g O C xb N (s1.put who (outCall x res' ser' (.fin r0))) true r0 wd)
    case first =>
      go_region_with ((with_reducible refine HCL.out.mono ?_); rintro e w3 ⟨nv, done, r, C', L', hl, rfl, hm, rfl, rfl, rfl⟩; have hm' := hm.back (Ext.refl W).drew; have k1 := hm'.2.1.blk K1.out n1; obtain ⟨f', cg, zg, -, -, -⟩ := hm.1.pend hw; have M := Lib.hid (kmid_mk (out := .fin r) (nv := .nilFunc) XW.out hW2 HLT.out hw hl hm' Hc1.out ⟨rfl, rfl, rfl⟩ K1.out K0.out); have c0 := blk_cell k1 0; have z0 := blk_frozen k1 0; have c1 := blk_cell k1 1; have z1 := blk_frozen k1 1; have c2 := blk_cell k1 2; have z2 := blk_frozen k1 2; have c3 := blk_cell k1 3; have z3 := blk_frozen k1 3; have c4 := blk_cell k1 4; have z4 := blk_frozen k1 4; have c5 := blk_cell k1 5; have z5 := blk_frozen k1 5; have c6 := blk_cell k1 6; have z6 := blk_frozen k1 6; clear hl hm hm' k1)
      all_goals
        go_wp2_with fail
        go_meet
        exact M.out
    case rest =>
      have HM := Lib.hid hcut
      obtain ⟨_, _, -, -, -, -, k1, k0⟩ := hcut
      have HK0 := Lib.hid k0
      have c0 := blk_cell k1 0; have z0 := blk_frozen k1 0; have c1 := blk_cell k1 1; have z1 := blk_frozen k1 1; have c2 := blk_cell k1 2; have z2 := blk_frozen k1 2; have c3 := blk_cell k1 3; have z3 := blk_frozen k1 3; have c4 := blk_cell k1 4; have z4 := blk_frozen k1 4; have c5 := blk_cell k1 5; have z5 := blk_frozen k1 5; have c6 := blk_cell k1 6; have z6 := blk_frozen k1 6
      have e0 := blk_cell k0 0; have y0 := blk_frozen k0 0; have e1 := blk_cell k0 1; have y1 := blk_frozen k0 1; have e2 := blk_cell k0 2; have y2 := blk_frozen k0 2; have e3 := blk_cell k0 3; have y3 := blk_frozen k0 3; have e4 := blk_cell k0 4; have y4 := blk_frozen k0 4; have e5 := blk_cell k0 5; have y5 := blk_frozen k0 5; have e6 := blk_cell k0 6; have y6 := blk_frozen k0 6
      clear k1 k0 dW
      go_wp2_with fail
      refine bodyPost_ret (results_cell_row (p := 4) rfl _ _ w.heap.size _ #[.bool true, .int .i64 (r0.er : Int), .bool r0.granted, .int .i64 r0.left, .int .i64 r0.wait, .int .i64 r0.ser, .int .i64 r0.now] (0, 0) _ rfl (row7 HK0.out _ _ _ _ _ _ _) Tryz.underlying41 (by rfl) (by kernel_rfl)) rfl ?_
      exact kmid_fin HM.out _ _ _ _ _ _ _ _
  | on k9 =>
    go_enter Tryz.func51, Tryz.ntmps51
    go_upto_region 2 with fail
    (try rw [HW.out])
    clear HW
    go_cut [] (fun wd => KMid w g O C xb N (s1.put who (outCall x res' ser' (.on k9))) false repZ wd)
    case first =>
      go_region_with ((with_reducible refine HCL.out.mono ?_); rintro e w3 ⟨nv, done, r, C', L', hl, rfl, hm, ho, rfl, rfl⟩; obtain ⟨f8, c8, rfl⟩ := ho.fn; have hm' := hm.back (Ext.refl W).drew; have k1 := hm'.2.1.blk K1.out n1; obtain ⟨f', cg, zg, -, -, -⟩ := hm.1.pend hw; have M := Lib.hid (kmid_mk (out := .on k9) (nv := fnV f8 c8) XW.out hW2 HLT.out hw hl hm' Hc1.out ⟨ho, rfl, rfl⟩ K1.out K0.out); have c0 := blk_cell k1 0; have z0 := blk_frozen k1 0; have c1 := blk_cell k1 1; have z1 := blk_frozen k1 1; have c2 := blk_cell k1 2; have z2 := blk_frozen k1 2; have c3 := blk_cell k1 3; have z3 := blk_frozen k1 3; have c4 := blk_cell k1 4; have z4 := blk_frozen k1 4; have c5 := blk_cell k1 5; have z5 := blk_frozen k1 5; have c6 := blk_cell k1 6; have z6 := blk_frozen k1 6; clear hl hm hm' k1 ho)
      all_goals
        go_wp2_with fail
        go_meet
        exact M.out
    case rest =>
      have HM := Lib.hid hcut
      obtain ⟨_, _, -, -, -, -, k1, k0⟩ := hcut
      have HK0 := Lib.hid k0
      have c0 := blk_cell k1 0; have z0 := blk_frozen k1 0; have c1 := blk_cell k1 1; have z1 := blk_frozen k1 1; have c2 := blk_cell k1 2; have z2 := blk_frozen k1 2; have c3 := blk_cell k1 3; have z3 := blk_frozen k1 3; have c4 := blk_cell k1 4; have z4 := blk_frozen k1 4; have c5 := blk_cell k1 5; have z5 := blk_frozen k1 5; have c6 := blk_cell k1 6; have z6 := blk_frozen k1 6
      have e0 := blk_cell k0 0; have y0 := blk_frozen k0 0; have e1 := blk_cell k0 1; have y1 := blk_frozen k0 1; have e2 := blk_cell k0 2; have y2 := blk_frozen k0 2; have e3 := blk_cell k0 3; have y3 := blk_frozen k0 3; have e4 := blk_cell k0 4; have y4 := blk_frozen k0 4; have e5 := blk_cell k0 5; have y5 := blk_frozen k0 5; have e6 := blk_cell k0 6; have y6 := blk_frozen k0 6
      clear k1 k0 dW
      go_wp2_with fail
      refine bodyPost_ret (results_cell_row (p := 4) rfl _ _ w.heap.size _ #[.bool false, .int .i64 (repZ.er : Int), .bool repZ.granted, .int .i64 repZ.left, .int .i64 repZ.wait, .int .i64 repZ.ser, .int .i64 repZ.now] (0, 0) _ rfl (row7 HK0.out _ _ _ _ _ _ _) Tryz.underlying41 (by rfl) (by kernel_rfl)) rfl ?_
      exact kmid_fin HM.out _ _ _ _ _ _ _ _
end

section
open Go.RowKit

theorem kis_ok (who : Nat) (w : World) (h : who < 64) : Calls Tryz.prog 50 #[.int .i64 (who : Int)] w fun e w' => e = .returned (.bool true) ∧ w = w' := by
  have h1 : (0 : Int) ≤ (who : Int) := by omega
  have h2 : (who : Int) < 64 := by omega
  go_enter Tryz.func50, Tryz.ntmps50
  go_wp2_with fail
  go_ret
  exact ⟨rfl, rfl⟩
theorem pendK_run {w : World} {X : Nat → Prop} {g : CoK} {who xb : Nat} {v : Value} {x : PCall} {res : Bool} {ser : Int} {k : Kont} (h : PendK w X g who xb v (.run x res ser k)) : ∃ f c, v = fnV f c := h.2.fn
set_option maxRecDepth 100000 in
theorem kpend_any (w : World) (g : CoK) (O C : Nat → Prop) (xb : Nat → Nat) (L : List AccE) (s : KSt) (who : Nat) (h : CoAt w g O C xb L s) (hw : who < 64) :
    Calls Tryz.prog 15 #[ptrV g.gx, .int .i64 (who : Int)] w fun e w' => e = .returned (.bool (isRun (s.call who))) ∧ w = w' := by
  obtain ⟨f, xf, -, -, pv, -⟩ := h.pend hw
  have IS := Lib.hid (kis_ok who w hw)
  have hq0 : ∀ (u : World), (binOp .neq 139 .nilFunc .nilFunc).run Tryz.prog u = .ok (.bool false) u := fun _ => rfl
  have hq1 : ∀ (f : FuncId) (c : Array Value) (u : World), (binOp .neq 139 (.func (.func f) #[] c) .nilFunc).run Tryz.prog u = .ok (.bool true) u := fun _ _ _ => rfl
  have hwi : (who : Int) < 64 := by omega
  cases hb : s.call who with
  | idle =>
    rw [hb] at pv
    obtain rfl : f = .nilFunc := pv
    clear h hb
    go_enter Tryz.func15, Tryz.ntmps15
    go_wp2_with fail
    refine IS.out.mono ?_
    rintro e w1 ⟨rfl, rfl⟩
    go_wp2_with fail
    go_ret
    exact ⟨rfl, rfl⟩
  | run x res ser k =>
    rw [hb] at pv
    obtain ⟨f1, c1, rfl⟩ := pendK_run pv
    clear pv h hb
    go_enter Tryz.func15, Tryz.ntmps15
    go_wp2_with fail
    refine IS.out.mono ?_
    rintro e w1 ⟨rfl, rfl⟩
    go_wp2_with fail
    go_ret
    exact ⟨rfl, rfl⟩
/-- core's results: a Result in a cell, and a number -/
theorem stepK_put {w W w3 : World} {g : CoK} {O C : Nat → Prop} {xb : Nat → Nat} {N : Nat} {s2 : KSt} {v r : Value} {e : Ending} (xW : Ext w W) (h : StepK W g (XG O w.heap.size) C xb N s2 v e w3) (b0 b1 b2 b3 b4 b5 b6 : Value) :
    StepK w g O C xb N s2 r (.returned r) (((((((w3.setCell ⟨w.heap.size, 0, none⟩ b0).setCell ⟨w.heap.size, 1, none⟩ b1).setCell ⟨w.heap.size, 2, none⟩ b2).setCell ⟨w.heap.size, 3, none⟩ b3).setCell ⟨w.heap.size, 4, none⟩ b4).setCell ⟨w.heap.size, 5, none⟩ b5).setCell ⟨w.heap.size, 6, none⟩ b6) := by
  obtain ⟨L', C', hl, -, hm⟩ := h
  have k7 := gb7 w3 w.heap.size b0 b1 b2 b3 b4 b5 b6
  exact ⟨L', C', hl, rfl, hm.fin xW (Nat.le_refl _) k7⟩
set_option maxHeartbeats 2000000 in
set_option maxRecDepth 100000 in
theorem kstep_run (w : World) (g : CoK) (O C : Nat → Prop) (xb : Nat → Nat) (L : List AccE) (s s1 : KSt) (who N : Nat) (x : PCall) (res res' : Bool) (ser ser' : Int) (k k0 : Kont) (out : KOut) (fn : FuncId) (caps : Array Value) (h : CoAt w g O C xb L s) (hc : s.call who = .run x res ser k) (hw : who < 64)
    (hv : w.cell? ⟨g.gx, 3 + who, none⟩ = some (fnV fn caps)) (hen : ∀ u : World, (callFunc fn caps).run Tryz.prog u = .ok (.enter fn caps) u) (hc1 : s1.call who = .run x res' ser' k0)
    (CL : ∀ u O', CoAt u g O' C xb L s → KontAt u (XO C O') (cidOf g who (xb who) x) (fnV fn caps) k → Calls Tryz.prog fn caps u (SK u g O' C xb who N x s1 out)) :
    Calls Tryz.prog 16 #[ptrV g.gx, .int .i64 (who : Int)] w (StepK w g O C xb N (s1.put who (outCall x res' ser' out)) (.tuple #[.agg #[.bool (outDone out), .int .i64 ((outRep out).er : Int), .bool (outRep out).granted, .int .i64 (outRep out).left, .int .i64 (outRep out).wait, .int .i64 (outRep out).ser, .int .i64 (outRep out).now], .int .i64 0])) := by
  obtain ⟨W, hW⟩ : ∃ W, (w.alloc (.cells #[.bool false, .int .i64 0, .bool false, .int .i64 0, .int .i64 0, .int .i64 0, .int .i64 0] 41)) = W := ⟨_, rfl⟩
  have xW : Ext w W := by rw [← hW]; exact ((Ext.refl w).alloc _)
  have KR := Lib.hid (show W.heap[w.heap.size]? = some (.cells #[.bool false, .int .i64 0, .bool false, .int .i64 0, .int .i64 0, .int .i64 0, .int .i64 0] 41 (0, 0)) by rw [← hW]; exact blk_new w _)
  have hA := h.xg xW (Nat.le_refl _) (blk_lt KR.out)
  have IS := Lib.hid (kis_ok who W hw)
  have hpd := kpend_any W g _ C xb L s who hA hw
  rw [hc] at hpd
  have PN := Lib.hid hpd
  have ST := Lib.hid (kcalls_run W g (XG O w.heap.size) C xb L s s1 who N x res res' ser ser' k k0 out fn caps hA hc hw (ext_cell xW hv) hen hc1 CL)
  have HLT := Lib.hid h.lt
  have XW := Lib.hid xW; have HW := Lib.hid hW
  obtain ⟨dn, Hdn⟩ : ∃ q, Hid (outDone out = q) := ⟨_, rfl⟩
  obtain ⟨rr, Hrr⟩ : ∃ q, Hid (outRep out = q) := ⟨_, rfl⟩
  rw [Hdn.out, Hrr.out] at ST ⊢
  clear h hA hpd CL hv hc hc1 hW xW
  go_enter Tryz.func16, Tryz.ntmps16
  go_upto_region 1 with fail
  (try rw [HW.out])
  clear HW
  go_wp2_with fail
  refine IS.out.mono ?_
  rintro e w1 ⟨rfl, rfl⟩
  go_wp2_with fail
  refine PN.out.mono ?_
  rintro e w1 ⟨rfl, rfl⟩
  go_wp2_with fail
  refine ST.out.mono ?_
  rintro e w3 hst
  have HST := Lib.hid hst
  obtain ⟨L', C', -, rfl, -, g4, -⟩ := hst
  have k3 := g4.blk KR.out (fun e => Nat.lt_irrefl _ (HLT.out _ e))
  have K3 := Lib.hid k3
  have r0 := blk_cell k3 0; have z0 := blk_frozen k3 0; have r1 := blk_cell k3 1; have z1 := blk_frozen k3 1; have r2 := blk_cell k3 2; have z2 := blk_frozen k3 2; have r3 := blk_cell k3 3; have z3 := blk_frozen k3 3; have r4 := blk_cell k3 4; have z4 := blk_frozen k3 4; have r5 := blk_cell k3 5; have z5 := blk_frozen k3 5; have r6 := blk_cell k3 6; have z6 := blk_frozen k3 6
  clear k3 g4
  go_wp2_with fail
  refine bodyPost_ret (results_row_tmp (p := 4) (u := 5) rfl _ _ w.heap.size _ #[.bool dn, .int .i64 (rr.er : Int), .bool rr.granted, .int .i64 rr.left, .int .i64 rr.wait, .int .i64 rr.ser, .int .i64 rr.now] (0, 0) _ rfl (row7 K3.out _ _ _ _ _ _ _) Tryz.underlying41 (by rfl) (by kernel_rfl)) rfl ?_
  exact stepK_put XW.out HST.out _ _ _ _ _ _ _
end

section
open Go.RowKit

set_option maxHeartbeats 2000000 in
/-- a shard is found: the directory is read, and it does not move -/
theorem k_find_even (w : World) (g : CoK) (O C : Nat → Prop) (xb : Nat → Nat) (L : List AccE) (s : KSt) (who u sum : Nat) (x : PCall) (res : Bool) (ser : Int) (t : Then) (f : FuncId) (caps : Array Value) (h : CoAt w g O C xb L s) (hc : s.call who = .run x res ser (.find sum t)) (hL : L.length ≤ 100000) (hw : who < 64) (hu : s.ws.getD 0 0 = 2 * u) (hu4 : u ≤ 4) (hs : sum < 18446744073709551616)
    (hk : KontAt w (XO C O) (cidOf g who (xb who) x) (fnV f caps) (.find sum t)) :
    Calls Tryz.prog f caps w (SK w g O C xb who (L.length + 1) x s (.on (.enter sum (placeK u sum) t))) := by
  obtain ⟨p0, p1, p2, p3, tv, hfn, ⟨k0, k1⟩, k2, k3, k4⟩ := hk
  obtain ⟨fi, ci, rfl⟩ := k4.fn
  injection hfn with hfn h1 h2
  injection hfn with hfn
  subst hfn h2
  obtain ⟨b0, rfl, l0⟩ := k0.ptr; obtain ⟨b1, rfl, l1⟩ := k1.ptr; obtain ⟨b2, rfl, l2⟩ := k2.ptr; obtain ⟨b3, rfl, l3⟩ := k3.ptr
  obtain ⟨W, hW⟩ : ∃ W, ((w.alloc (.cells #[.bool false, .int .i64 0, .bool false, .int .i64 0, .int .i64 0, .int .i64 0, .int .i64 0] 41)).alloc (.cells #[.bool false, .int .i64 0, .bool false, .int .i64 0, .int .i64 0, .int .i64 0, .int .i64 0] 41)) = W := ⟨_, rfl⟩
  have xW : Ext w W := by rw [← hW]; exact (((Ext.refl w).alloc _).alloc _)
  have K0 := Lib.hid (show W.heap[w.heap.size]? = some (.cells #[.bool false, .int .i64 0, .bool false, .int .i64 0, .int .i64 0, .int .i64 0, .int .i64 0] 41 (0, 0)) by rw [← hW]; exact blk_past (blk_new w _) _)
  have K1 := Lib.hid (show W.heap[w.heap.size + 1]? = some (.cells #[.bool false, .int .i64 0, .bool false, .int .i64 0, .int .i64 0, .int .i64 0, .int .i64 0] 41 (0, 0)) by rw [← hW]; exact blk_newk _ _ (by simp))
  have hA := h.xg xW (Nat.le_refl _) (blk_lt K0.out)
  have LD := Lib.hid (kload_i W.drew g (XG O w.heap.size) C xb L s who 0 (2 * u) _ 0 (hA.ext (Ext.refl W).drew) (by omega) hw (by omega) hu rfl rfl)
  have HA := Lib.hid hA; have HLT := Lib.hid h.lt
  have Hc := Lib.hid hc
  have d0 := (k0.ext xW).cell 0; have d1 := (k1.ext xW).cell 0; have dl := hA.rd.l0
  have HK0 := Lib.hid k0; have HK1 := Lib.hid k1; have HK2 := Lib.hid k2; have HK3 := Lib.hid k3; have HK4 := Lib.hid k4
  have XW := Lib.hid xW
  have hNL : (L ++ [(⟨who, 1, 0, 2 * u, 0, true⟩ : AccE)]).length ≤ L.length + 1 := by simp
  obtain ⟨d, Hd⟩ : ∃ d, Hid (2 * u = d) := ⟨_, rfl⟩
  rw [Hd.out] at LD hNL
  have PL := Lib.hid (fun w => place_any u sum w hu4 hs)
  obtain ⟨pl, Hp⟩ : ∃ p, Hid (placeK u sum = p) := ⟨_, rfl⟩
  rw [Hp.out] at PL ⊢
  have e0 : W.cell? ⟨b0, 0, none⟩ = some (ptrV g.gl) := d0
  have e1 : W.cell? ⟨b1, 0, none⟩ = some (.int .i64 (who : Int)) := d1
  have HW := Lib.hid hW
  have hgw := blk_lt K1.out
  obtain ⟨n, Hn⟩ : ∃ n, Hid ((s.hs.getD 0 []).length = n) := ⟨_, rfl⟩
  rw [Hn.out] at LD
  clear h hc hu k0 k1 k2 k3 k4 d0 d1 hA xW hW
  go_enter Tryz.func237, Tryz.ntmps237
  go_upto_region 2 with fail
  (try rw [HW.out])
  clear HW
  go_cut [7] (fun v7 wd => v7 = .int .u64 (d : Int) ∧ ∃ C', CoMov W g (XG O w.heap.size) C xb (L ++ [⟨who, 1, 0, d, 0, true⟩]) s C' wd)
  case first =>
    go_region_held3 (fun w' => w'.cell? ⟨b0, 0, none⟩ = some (ptrV g.gl) ∧ w'.cell? ⟨b1, 0, none⟩ = some (.int .i64 (who : Int)) ∧ w'.cell? ⟨g.gl, 0, none⟩ = some (ptrV g.gb))
      (((try go_split_ands); exact ⟨(by first | (with_reducible exact drew_cell e0) | (with_reducible exact e0) | (with_reducible exact te0) | (with_reducible exact drew_cell te0) | (with_reducible assumption) | (with_reducible exact cell_past te0 _) | (with_reducible exact drew_cell (cell_past e0 _))), (by first | (with_reducible exact drew_cell e1) | (with_reducible exact e1) | (with_reducible exact te1) | (with_reducible exact drew_cell te1) | (with_reducible assumption) | (with_reducible exact cell_past te1 _) | (with_reducible exact drew_cell (cell_past e1 _))), (by first | (with_reducible exact drew_cell dl) | (with_reducible exact dl) | (with_reducible exact tdl) | (with_reducible exact drew_cell tdl) | (with_reducible assumption) | (with_reducible exact cell_past tdl _) | (with_reducible exact drew_cell (cell_past dl _)))⟩))
      ((go_at_call 174; (with_reducible refine LD.out.mono ?_); rintro e w2 ⟨A, c, rs, C', rfl, -, hm⟩; have HM := Lib.hid (hm.back (Ext.refl W).drew); have hkp := HM.out.kpg XW.out (Nat.le_refl w.heap.size); have te0 : w2.cell? ⟨b0, 0, none⟩ = some (ptrV g.gl) := (HK0.out.kp hkp).cell 0; have te1 : w2.cell? ⟨b1, 0, none⟩ = some (.int .i64 (who : Int)) := (HK1.out.kp hkp).cell 0; have tdl := hm.1.rd.l0; clear hm hkp))
    all_goals
      go_wp2_with fail
      go_meet
      exact ⟨rfl, _, HM.out⟩
  case rest =>
    obtain ⟨rfl, C', hm⟩ := hcut
    have HM := Lib.hid hm
    have hkp := hm.kpg XW.out (Nat.le_refl w.heap.size)
    have J0 := Lib.hid (HK0.out.kp hkp); have J1 := Lib.hid (HK1.out.kp hkp); have J2 := Lib.hid (HK2.out.kp hkp); have J3 := Lib.hid (HK3.out.kp hkp); have J4 := Lib.hid (HK4.out.kp hkp)
    have hC0 : ¬ C w.heap.size := fun e => Nat.lt_irrefl _ (HLT.out _ e)
    have hC1 : ¬ C (w.heap.size + 1) := fun e => by have := HLT.out _ e; omega
    have KR := Lib.hid (hm.2.1.blk K0.out hC0); have KN := Lib.hid (hm.2.1.blk K1.out hC1)
    have HX := Lib.hid hm.1.newer
    have hq : (d : Int) / 2 = (u : Int) := by have := Hd.out; omega
    have hr : (d : Int) % 2 = 0 := by have := Hd.out; omega
    clear hm hkp hC0 hC1 e0 e1 dl
    go_upto_region 5 with fail
    obtain ⟨V, hV⟩ : ∃ V, wc.alloc (.cells #[.int .i64 (u : Int)] 3) = V := ⟨_, rfl⟩
    have xV : Ext wc V := by rw [← hV]; exact (Ext.refl wc).alloc _
    have f4 : V.cell? ⟨wc.heap.size, 0, none⟩ = some (.int .i64 (u : Int)) := by rw [← hV]; exact blk_cell (blk_new wc _) 0
    have f0 : V.cell? ⟨b0, 0, none⟩ = some (ptrV g.gl) := (J0.out.ext xV).cell 0
    have f1 : V.cell? ⟨b1, 0, none⟩ = some (.int .i64 (who : Int)) := (J1.out.ext xV).cell 0
    have f2 : V.cell? ⟨b2, 0, none⟩ = some (.int .u64 (sum : Int)) := (J2.out.ext xV).cell 0
    have f3 : V.cell? ⟨b3, 0, none⟩ = some (fnV fi ci) := (J3.out.ext xV).cell 0
    have KR2 := Lib.hid (blk_ext KR.out xV); have KN2 := blk_ext KN.out xV
    have n0 : V.cell? ⟨w.heap.size + 1, 0, none⟩ = some (.bool false) := blk_cell KN2 0; have n1 : V.cell? ⟨w.heap.size + 1, 1, none⟩ = some (.int .i64 0) := blk_cell KN2 1; have n2 : V.cell? ⟨w.heap.size + 1, 2, none⟩ = some (.bool false) := blk_cell KN2 2; have n3 : V.cell? ⟨w.heap.size + 1, 3, none⟩ = some (.int .i64 0) := blk_cell KN2 3; have n4 : V.cell? ⟨w.heap.size + 1, 4, none⟩ = some (.int .i64 0) := blk_cell KN2 4; have n5 : V.cell? ⟨w.heap.size + 1, 5, none⟩ = some (.int .i64 0) := blk_cell KN2 5; have n6 : V.cell? ⟨w.heap.size + 1, 6, none⟩ = some (.int .i64 0) := blk_cell KN2 6
    have EN := Lib.hid (lenter_any V.drew (XO C' (XG O w.heap.size)) (cidOf g who (xb who) x) sum pl (fnV fi ci) t (HX.out.ext (xV.trans (Ext.refl V).drew)) (J4.out.ext (xV.trans (Ext.refl V).drew)))
    have XV := Lib.hid xV; have HNL := Lib.hid hNL; have HU4 := Lib.hid hu4
    rw [hV]
    clear hV xV KN2 hq hr
    have hwc : w.heap.size < wc.heap.size := blk_lt KR.out
    have qf0 : b0 ≠ w.heap.size := by omega
    have qf1 : b1 ≠ w.heap.size := by omega
    have qf2 : b2 ≠ w.heap.size := by omega
    have qf3 : b3 ≠ w.heap.size := by omega
    have qf4 : wc.heap.size ≠ w.heap.size := by omega
    have qn0 : w.heap.size + 1 ≠ w.heap.size := by omega
    have qn1 : w.heap.size + 1 ≠ w.heap.size := by omega
    have qn2 : w.heap.size + 1 ≠ w.heap.size := by omega
    have qn3 : w.heap.size + 1 ≠ w.heap.size := by omega
    have qn4 : w.heap.size + 1 ≠ w.heap.size := by omega
    have qn5 : w.heap.size + 1 ≠ w.heap.size := by omega
    have qn6 : w.heap.size + 1 ≠ w.heap.size := by omega
    clear hNL hu4 hs hL hgw l0 l1 l2 l3 hwc
    go_region_held3 (fun w' => w'.cell? ⟨b0, 0, none⟩ = some (ptrV g.gl) ∧ w'.cell? ⟨b1, 0, none⟩ = some (.int .i64 (who : Int)) ∧ w'.cell? ⟨b2, 0, none⟩ = some (.int .u64 (sum : Int)) ∧ w'.cell? ⟨wc.heap.size, 0, none⟩ = some (.int .i64 (u : Int)) ∧ w'.cell? ⟨b3, 0, none⟩ = some (fnV fi ci) ∧ w'.cell? ⟨w.heap.size + 1, 0, none⟩ = some (.bool false) ∧ w'.cell? ⟨w.heap.size + 1, 1, none⟩ = some (.int .i64 0) ∧ w'.cell? ⟨w.heap.size + 1, 2, none⟩ = some (.bool false) ∧ w'.cell? ⟨w.heap.size + 1, 3, none⟩ = some (.int .i64 0) ∧ w'.cell? ⟨w.heap.size + 1, 4, none⟩ = some (.int .i64 0) ∧ w'.cell? ⟨w.heap.size + 1, 5, none⟩ = some (.int .i64 0) ∧ w'.cell? ⟨w.heap.size + 1, 6, none⟩ = some (.int .i64 0))
      (((try go_split_ands); exact ⟨(by first | (with_reducible exact drew_cell f0) | (with_reducible exact f0) | (with_reducible exact tf0) | (with_reducible exact drew_cell tf0) | (with_reducible exact drew_cell (cell_o7 tf0 qf0)) | (with_reducible exact cell_o7 tf0 qf0) | (with_reducible assumption) | (with_reducible exact cell_past tf0 _) | (with_reducible exact drew_cell (cell_past f0 _))), (by first | (with_reducible exact drew_cell f1) | (with_reducible exact f1) | (with_reducible exact tf1) | (with_reducible exact drew_cell tf1) | (with_reducible exact drew_cell (cell_o7 tf1 qf1)) | (with_reducible exact cell_o7 tf1 qf1) | (with_reducible assumption) | (with_reducible exact cell_past tf1 _) | (with_reducible exact drew_cell (cell_past f1 _))), (by first | (with_reducible exact drew_cell f2) | (with_reducible exact f2) | (with_reducible exact tf2) | (with_reducible exact drew_cell tf2) | (with_reducible exact drew_cell (cell_o7 tf2 qf2)) | (with_reducible exact cell_o7 tf2 qf2) | (with_reducible assumption) | (with_reducible exact cell_past tf2 _) | (with_reducible exact drew_cell (cell_past f2 _))), (by first | (with_reducible exact drew_cell f4) | (with_reducible exact f4) | (with_reducible exact tf4) | (with_reducible exact drew_cell tf4) | (with_reducible exact drew_cell (cell_o7 tf4 qf4)) | (with_reducible exact cell_o7 tf4 qf4) | (with_reducible assumption) | (with_reducible exact cell_past tf4 _) | (with_reducible exact drew_cell (cell_past f4 _))), (by first | (with_reducible exact drew_cell f3) | (with_reducible exact f3) | (with_reducible exact tf3) | (with_reducible exact drew_cell tf3) | (with_reducible exact drew_cell (cell_o7 tf3 qf3)) | (with_reducible exact cell_o7 tf3 qf3) | (with_reducible assumption) | (with_reducible exact cell_past tf3 _) | (with_reducible exact drew_cell (cell_past f3 _))), (by first | (with_reducible exact drew_cell n0) | (with_reducible exact n0) | (with_reducible exact tn0) | (with_reducible exact drew_cell tn0) | (with_reducible exact drew_cell (cell_o7 tn0 qn0)) | (with_reducible exact cell_o7 tn0 qn0) | (with_reducible assumption) | (with_reducible exact cell_past tn0 _) | (with_reducible exact drew_cell (cell_past n0 _))), (by first | (with_reducible exact drew_cell n1) | (with_reducible exact n1) | (with_reducible exact tn1) | (with_reducible exact drew_cell tn1) | (with_reducible exact drew_cell (cell_o7 tn1 qn1)) | (with_reducible exact cell_o7 tn1 qn1) | (with_reducible assumption) | (with_reducible exact cell_past tn1 _) | (with_reducible exact drew_cell (cell_past n1 _))), (by first | (with_reducible exact drew_cell n2) | (with_reducible exact n2) | (with_reducible exact tn2) | (with_reducible exact drew_cell tn2) | (with_reducible exact drew_cell (cell_o7 tn2 qn2)) | (with_reducible exact cell_o7 tn2 qn2) | (with_reducible assumption) | (with_reducible exact cell_past tn2 _) | (with_reducible exact drew_cell (cell_past n2 _))), (by first | (with_reducible exact drew_cell n3) | (with_reducible exact n3) | (with_reducible exact tn3) | (with_reducible exact drew_cell tn3) | (with_reducible exact drew_cell (cell_o7 tn3 qn3)) | (with_reducible exact cell_o7 tn3 qn3) | (with_reducible assumption) | (with_reducible exact cell_past tn3 _) | (with_reducible exact drew_cell (cell_past n3 _))), (by first | (with_reducible exact drew_cell n4) | (with_reducible exact n4) | (with_reducible exact tn4) | (with_reducible exact drew_cell tn4) | (with_reducible exact drew_cell (cell_o7 tn4 qn4)) | (with_reducible exact cell_o7 tn4 qn4) | (with_reducible assumption) | (with_reducible exact cell_past tn4 _) | (with_reducible exact drew_cell (cell_past n4 _))), (by first | (with_reducible exact drew_cell n5) | (with_reducible exact n5) | (with_reducible exact tn5) | (with_reducible exact drew_cell tn5) | (with_reducible exact drew_cell (cell_o7 tn5 qn5)) | (with_reducible exact cell_o7 tn5 qn5) | (with_reducible assumption) | (with_reducible exact cell_past tn5 _) | (with_reducible exact drew_cell (cell_past n5 _))), (by first | (with_reducible exact drew_cell n6) | (with_reducible exact n6) | (with_reducible exact tn6) | (with_reducible exact drew_cell tn6) | (with_reducible exact drew_cell (cell_o7 tn6 qn6)) | (with_reducible exact cell_o7 tn6 qn6) | (with_reducible assumption) | (with_reducible exact cell_past tn6 _) | (with_reducible exact drew_cell (cell_past n6 _)))⟩))
      (first
        | (go_at_call 81; (with_reducible refine (PL.out _).mono ?_); rintro e w8 ⟨rfl, rfl⟩)
        | (go_at_call 238; (with_reducible refine EN.out.mono ?_); rintro e w2 ⟨v, rfl, hk, hx⟩; have hx' := (Ext.refl V).drew.trans hx; have HK := Lib.hid hk; have HXX := Lib.hid hx'; have KR3 := Lib.hid (blk_ext KR2.out hx'); have r0 := blk_cell KR3.out 0; have z0 := blk_frozen KR3.out 0; have r1 := blk_cell KR3.out 1; have z1 := blk_frozen KR3.out 1; have r2 := blk_cell KR3.out 2; have z2 := blk_frozen KR3.out 2; have r3 := blk_cell KR3.out 3; have z3 := blk_frozen KR3.out 3; have r4 := blk_cell KR3.out 4; have z4 := blk_frozen KR3.out 4; have r5 := blk_cell KR3.out 5; have z5 := blk_frozen KR3.out 5; have r6 := blk_cell KR3.out 6; have z6 := blk_frozen KR3.out 6; have tf0 := ext_cell (hx') f0; have tf1 := ext_cell (hx') f1; have tf2 := ext_cell (hx') f2; have tf3 := ext_cell (hx') f3; have tf4 := ext_cell (hx') f4; have tn0 := ext_cell (hx') n0; have tn1 := ext_cell (hx') n1; have tn2 := ext_cell (hx') n2; have tn3 := ext_cell (hx') n3; have tn4 := ext_cell (hx') n4; have tn5 := ext_cell (hx') n5; have tn6 := ext_cell (hx') n6; clear hk hx hx'))
    all_goals
      go_wp2_with fail
      refine bodyPost_ret (results_tmp_row (p := 5) (u := 4) rfl _ _ w.heap.size _ #[.bool false, .int .i64 0, .bool false, .int .i64 0, .int .i64 0, .int .i64 0, .int .i64 0] (0, 0) _ rfl (row7 KR3.out _ _ _ _ _ _ _) Tryz.underlying41 (by rfl) (by kernel_rfl)) rfl ?_
      exact sk_fin (r := repZ) HNL.out XW.out (Nat.le_refl _) (HM.out.ext (XV.out.trans HXX.out)) (out_on HK.out) _ _ _ _ _ _ _
end

section
open Go.RowKit

theorem info_u8 : (Tryz.prog.info? 5).map (fun i => (i.zero, i.size, i.bytes)) = some (some (.int .u8 0), 1, 1) := by kernel_rfl

theorem size_u8 : ∀ u : World, (sizeOf 5).run Tryz.prog u = .ok 1 u := fun _ => by kernel_rfl

/-- append of bytes onto bytes of the call's own -/
theorem app_u8 {ops : Array Oper} {rest : List Oper} {o : Oper} {a : Act} {Q : Exit → Act → World → Prop} (w : World) (hgd : o.guard = none) (s x : Operand)
    (ho : o.op = .call { callee := .builtin .append, args := #[s, x], argTypes := #[32, 32] })
    (base : Nat) {B : Option Addr} {n cb : Nat} {xs : List Nat} (hs : a.eval s = .slice B n cb) (hown : w.ownsRow base 5 1 (.slice B n cb) n (vals .u8 xs))
    {A : Option Addr} {m c : Nat} {news : List Nat} (hx : a.eval x = .slice A m c) (hl : news.length = m) (hr : Rd w A (vals .u8 news)) (hb : n + m ≤ 140737488355328) (hbase : base ≤ w.heap.size)
    (h : ∀ B' cb' w', w'.ownsRow base 5 1 (.slice B' (n + m) cb') (n + m) (vals .u8 (xs ++ news)) → w.grownBy w' (Value.slice B n cb).ownBlock →
      ((Value.slice B' (n + m) cb').ownBlock = (Value.slice B n cb).ownBlock ∨ (Value.slice B' (n + m) cb').ownBlock = some w.heap.size) → wpList Tryz.prog ops Q rest (a.put o.dst (.slice B' (n + m) cb')) w') :
    wpList Tryz.prog ops Q (o :: rest) a w := by
  obtain ⟨i0, hi, hz0, hz1, hz2⟩ := info_parts info_u8
  refine wpList_append_rd w hgd s x 32 ho base 5 Tryz.underlying32 hi hz0 hz1 hz2 rfl (by decide) hs hown hx (by rw [vals_len, hl, Nat.mul_one]) hr (vals_one _ _) (by unfold maxLen; omega) (by omega) hbase ?_
  intro B' cb' w' h2 h3 h4
  rw [← vals_append] at h2
  exact h B' cb' w' h2 h3 h4

theorem own0 (w : World) : (w.alloc (.cells #[] 5)).ownsRow w.heap.size 5 1 (.slice (some ⟨w.heap.size, 0, none⟩) 0 0) 0 (vals .u8 []) := own_made w [] 5 1 0 rfl (Nat.zero_le _) (Nat.le_refl _)

/-- an answer that is a list of bytes in new memory -/
def RetB (xs : List Nat) (w : World) (e : Ending) (w' : World) : Prop :=
  ∃ A c, e = .returned (.slice A xs.length c) ∧ w'.ownsRow w.heap.size 5 1 (.slice A xs.length c) xs.length (vals .u8 xs) ∧ Ext w w'

theorem retB_of {n c : Nat} {xs : List Nat} (hl : xs.length = n) {w w' : World} {A : Option Addr} (ho : w'.ownsRow w.heap.size 5 1 (.slice A n c) n (vals .u8 xs)) (hb : Ext w w') :
    RetB xs w (.returned (.slice A n c)) w' := by
  subst hl
  exact ⟨A, c, rfl, ho, hb⟩

set_option maxHeartbeats 400000 in
theorem twin_any (A : Option Addr) (n c : Nat) (xs : List Nat) (w : World) (hl : xs.length = n) (hn : n ≤ 140737488355328) (hr : Rd w A (vals .u8 xs)) :
    Calls Tryz.prog 45 #[.slice A n c] w (RetB xs w) := by
  have Hl := Lib.hid hl; clear hl
  have Hr := Lib.hid hr; clear hr
  go_enter Tryz.func45, Tryz.ntmps45
  go_wp2_with (at_builtin; refine app_u8 _ rfl (.tmp 3) (.tmp 4) rfl w.heap.size rfl (own0 w) rfl Hl.out (Hr.out.alloc _) (by omega) (by simp) ?_; intro A' c' w1 hown hgrow _; simp only [Nat.zero_add, List.nil_append] at hown)
  go_ret
  exact retB_of Hl.out hown (((Ext.refl w).alloc _).grown hgrow (by simp [Value.ownBlock]))

theorem nilq (w : World) (A : Option Addr) (n c n' c' : Nat) : (binOp .eql 32 (.slice A n c) (.slice none n' c')).run Tryz.prog w = .ok (.bool A.isNone) w := Lib.run_eql_slice_nil w _ _ A n c n' c' Tryz.underlying32

set_option maxHeartbeats 400000 in
theorem clone_some (a : Addr) (n c : Nat) (xs : List Nat) (w : World) (hl : xs.length = n) (hn : n ≤ 140737488355328) (hr : Rd w (some a) (vals .u8 xs)) :
    Calls Tryz.prog 67 #[.slice (some a) n c] w (RetB xs w) := by
  have Hl := Lib.hid hl; clear hl
  have Hr := Lib.hid hr; clear hr
  have q := nilq
  go_enter Tryz.func67, Tryz.ntmps67
  go_wp2_with (at_builtin; refine app_u8 _ rfl (.tmp 5) (.tmp 6) rfl w.heap.size rfl (own0 w) rfl Hl.out (Hr.out.alloc _) (by omega) (by simp) ?_; intro A' c' w1 hown hgrow _; simp only [Nat.zero_add, List.nil_append] at hown)
  go_ret
  exact retB_of Hl.out hown (((Ext.refl w).alloc _).grown hgrow (by simp [Value.ownBlock]))
theorem clone_nil (w : World) (n c : Nat) :
    Calls Tryz.prog 67 #[.slice none n c] w fun e w' => e = .returned (.slice none 0 0) ∧ w = w' := by
  have q := nilq
  go_enter Tryz.func67, Tryz.ntmps67
  go_wp2
  go_ret
  exact ⟨rfl, rfl⟩

def same (xs ys : List Nat) : Bool := decide (xs = ys)
/-- only draws -/
def RetQ (v : Value) (w : World) (e : Ending) (w' : World) : Prop := e = .returned v ∧ ∃ q, w' = w.drewN q

set_option maxHeartbeats 400000 in
theorem same_len (A B : Option Addr) (n c m d : Nat) (w : World) (h : n ≠ m) :
    Calls Tryz.prog 64 #[.slice A n c, .slice B m d] w (RetQ (.bool false) w) := by
  go_enter Tryz.func64, Tryz.ntmps64
  go_wp2
  go_ret
  exact ⟨rfl, 0, rfl⟩
set_option maxHeartbeats 400000 in
theorem same_any' (A B : Option Addr) (n c d : Nat) (xs ys : List Nat) (w : World) (hl : xs.length = n) (hl' : ys.length = n) (hn : n ≤ 9223372036854775807) (hb : ∀ x ∈ xs, x < 256) (hb' : ∀ x ∈ ys, x < 256) (hr : Rd w A (vals .u8 xs)) (hr' : Rd w B (vals .u8 ys)) :
    Calls Tryz.prog 64 #[.slice A n c, .slice B n d] w (RetQ (.bool (same xs ys)) w) := by
  have Hl := Lib.hid hl; have Hr := Lib.hid hr; have Hl' := Lib.hid hl'; have Hr' := Lib.hid hr'; have Hb := Lib.hid hb; have Hb' := Lib.hid hb'; clear hl hr hl' hr' hb hb'
  go_enter Tryz.func64, Tryz.ntmps64
  go_wp2
  go_loopw [13] (fun i wr => ∃ k q : Nat, k ≤ n ∧ i = .int .i64 k ∧ wr = w.drewN q ∧ xs.take k = ys.take k) (fun i _ => n - (intOf i).toNat)
  case atStart => exact ⟨0, 0, Nat.zero_le _, rfl, rfl, rfl⟩
  case round =>
    obtain ⟨k, q, hk, rfl, rfl, htk⟩ := hrel
    have Htk := Lib.hid htk; clear htk
    by_cases hlt : k < n
    · obtain ⟨x, hx⟩ := get_of_lt (xs := xs) (j := k) (by rw [Hl.out]; exact hlt)
      obtain ⟨y, hy⟩ := get_of_lt (xs := ys) (j := k) (by rw [Hl'.out]; exact hlt)
      obtain ⟨b, off, hA, _, hc⟩ := Hr.out.at_ hx
      obtain ⟨b', off', hA', _, hc'⟩ := Hr'.out.at_ hy
      have Hx := Lib.hid hx; have Hy := Lib.hid hy; clear hx hy
      subst hA hA'
      by_cases hxy : x = y
      · subst hxy
        go_wp2
        go_quiet (fail)
        go_wp2
        go_roundw
        case rel => exact ⟨k + 1, _, by omega, by go_num, rfl, by rw [take_succ_of Hx.out, take_succ_of Hy.out, Htk.out]⟩
        case measure => simp [intOf]; omega
      · go_wp2
        go_quiet (fail)
        go_wp2
        go_ret
        exact ⟨ret_bool (Eq.symm (decide_eq_false (by rintro rfl; have := Hx.out.symm.trans Hy.out; injection this with this; exact hxy this))), q + nq, drewN_add w q nq⟩
    · go_wp2
      go_ret
      exact ⟨ret_bool (Eq.symm (decide_eq_true (by have h := Htk.out; rwa [List.take_of_length_le (by rw [Hl.out]; omega), List.take_of_length_le (by rw [Hl'.out]; omega)] at h))), q, rfl⟩
theorem same_any (A B : Option Addr) (n c m d : Nat) (xs ys : List Nat) (w : World) (hl : xs.length = n) (hl' : ys.length = m) (hn : n ≤ 9223372036854775807) (hb : ∀ x ∈ xs, x < 256) (hb' : ∀ x ∈ ys, x < 256) (hr : Rd w A (vals .u8 xs)) (hr' : Rd w B (vals .u8 ys)) :
    Calls Tryz.prog 64 #[.slice A n c, .slice B m d] w (RetQ (.bool (same xs ys)) w) := by
  by_cases h : n = m
  · subst h
    exact same_any' A B n c d xs ys w hl hl' hn hb hb' hr hr'
  · have e : same xs ys = false := decide_eq_false (by rintro rfl; omega)
    rw [e]
    exact same_len A B n c m d w h

theorem rd_take {w : World} {A : Option Addr} {k : IntKind} {xs ys : List Nat} (h : Rd w A (vals k (xs ++ ys))) : Rd w A (vals k xs) := by
  intro hne
  obtain ⟨b, off, hA, hc⟩ := h (by intro e; rw [vals_append] at e; exact hne (List.append_eq_nil_iff.1 e).1)
  exact ⟨b, off, hA, fun j u hu => hc j u (by rw [vals_append, List.getElem?_append_left (List.getElem?_eq_some_iff.1 hu).1]; exact hu)⟩
end

section
open Go.RowKit
def RetBE (xs : List Nat) (er : Int) (w : World) (e : Ending) (w' : World) : Prop :=
  ∃ A c, e = .returned (.tuple #[.slice A xs.length c, .int .i64 er]) ∧ w'.ownsRow w.heap.size 5 1 (.slice A xs.length c) xs.length (vals .u8 xs) ∧ Ext w w'
theorem retBE_of {n c : Nat} {xs : List Nat} {er : Int} (hl : xs.length = n) {w w' : World} {A : Option Addr} (ho : w'.ownsRow w.heap.size 5 1 (.slice A n c) n (vals .u8 xs)) (hb : Ext w w') :
    RetBE xs er w (.returned (.tuple #[.slice A n c, .int .i64 er])) w' := by
  subst hl
  exact ⟨A, c, rfl, ho, hb⟩
end

section
open Go.RowKit

theorem own1 (w : World) (x : Nat) : (w.alloc (.cells #[.int .u8 (x : Int)] 5)).ownsRow w.heap.size 5 1 (.slice (some ⟨w.heap.size, 0, none⟩) 1 1) 1 (vals .u8 [x]) := own_made w [.int .u8 (x : Int)] 5 1 1 rfl (by unfold maxLen; omega) (Nat.le_refl _)

set_option maxHeartbeats 400000 in
theorem ident_ok (p : Nat) (A : Option Addr) (n c : Nat) (xs : List Nat) (w : World) (hp : p < 32) (hl : xs.length = n) (hn : n ≤ 255) (hr : Rd w A (vals .u8 xs)) :
    Calls Tryz.prog 72 #[.int .i64 (p : Int), .slice A n c] w (RetBE (p :: xs) 0 w) := by
  have Hl := Lib.hid hl; clear hl
  have Hr := Lib.hid hr; clear hr
  go_enter Tryz.func72, Tryz.ntmps72
  go_wp2_with (at_builtin; refine app_u8 _ rfl (.tmp 19) (.tmp 20) rfl w.heap.size rfl (own1 w p) rfl Hl.out (Hr.out.alloc _) (by omega) (by simp) ?_; intro A' c' w1 hown hgrow _)
  go_ret2
  exact retBE_of (by rw [List.length_cons, Hl.out, Nat.add_comm]) hown (((Ext.refl w).alloc _).grown hgrow (by simp [Value.ownBlock]))
theorem ident_arg (p : Int) (A : Option Addr) (n c : Nat) (w : World) (hp : p < 0 ∨ 32 ≤ p) :
    Calls Tryz.prog 72 #[.int .i64 p, .slice A n c] w fun e w' => e = .returned (.tuple #[.slice none 0 0, .int .i64 1]) ∧ w = w' := by
  rcases hp with h | h
  · go_enter Tryz.func72, Tryz.ntmps72
    go_wp2
    go_ret2
    exact ⟨rfl, rfl⟩
  · have h' : ¬ p < 0 := by omega
    go_enter Tryz.func72, Tryz.ntmps72
    go_wp2
    go_ret2
    exact ⟨rfl, rfl⟩
theorem ident_long (p : Int) (A : Option Addr) (n c : Nat) (w : World) (hp : 0 ≤ p) (hp' : p < 32) (hn : 255 < n) :
    Calls Tryz.prog 72 #[.int .i64 p, .slice A n c] w fun e w' => e = .returned (.tuple #[.slice none 0 0, .int .i64 2]) ∧ w = w' := by
  go_enter Tryz.func72, Tryz.ntmps72
  go_wp2
  go_ret2
  exact ⟨rfl, rfl⟩
end

section
open Go.RowKit

set_option maxRecDepth 100000 in
theorem cmp_call (args : Array Value) (w : World) : (callFunc 271 args).run Tryz.prog w = ((Extern.BytealgCompare.compare args).run Tryz.prog w).andThen fun v w' => .ok (.value v) w' :=
  run_callFunc_extern Tryz.func271 (by kernel_rfl) (by kernel_rfl) (by kernel_rfl) (e := Extern.BytealgCompare.compare) (by kernel_rfl) args w

set_option maxRecDepth 100000 in
set_option maxHeartbeats 400000 in
theorem bcompare_any (A B : Option Addr) (n c m d : Nat) (xs ys : List Nat) (w : World) (hl : xs.length = n) (hl' : ys.length = m) (hb : ∀ x ∈ xs, x < 256) (hb' : ∀ x ∈ ys, x < 256) (hr : Rd w A (vals .u8 xs)) (hr' : Rd w B (vals .u8 ys)) :
    Calls Tryz.prog 228 #[.slice A n c, .slice B m d] w fun e w' => e = .returned (.int .i64 (ord xs ys)) ∧ w = w' := by
  have hrun := Lib.hid (run_cmpB (P := Tryz.prog) (c := c) (d := d) hl hr hl' hr' hb hb')
  clear hl hl' hr hr' hb hb'
  go_enter Tryz.func228, Tryz.ntmps228
  go_wp2_with fail
  rw [cmp_call, hrun.out]
  simp only [Result.andThen]
  rw [Oper.upon_value]
  go_wp2
  go_ret
  exact ⟨rfl, rfl⟩
theorem order_any (A B : Option Addr) (n c m d : Nat) (xs ys : List Nat) (w : World) (hl : xs.length = n) (hl' : ys.length = m) (hb : ∀ x ∈ xs, x < 256) (hb' : ∀ x ∈ ys, x < 256) (hr : Rd w A (vals .u8 xs)) (hr' : Rd w B (vals .u8 ys)) :
    Calls Tryz.prog 168 #[.slice A n c, .slice B m d] w fun e w' => e = .returned (.int .i64 (ord xs ys)) ∧ w = w' := by
  have c1 := Lib.hid (bcompare_any A B n c m d xs ys w hl hl' hb hb' hr hr')
  clear hl hl' hr hr' hb hb'
  go_enter Tryz.func168, Tryz.ntmps168
  go_wp2_with fail
  refine c1.out.mono ?_
  rintro e w' ⟨rfl, rfl⟩
  go_wp2
  go_ret
  exact ⟨rfl, rfl⟩
end

section
open Go.RowKit

set_option maxHeartbeats 400000 in
theorem update_any (h : Nat) (A : Option Addr) (n c : Nat) (xs : List Nat) (w : World) (hl : xs.length = n) (hb : ∀ x ∈ xs, x < 256) (hn : n ≤ 9223372036854775807) (hh : h < 18446744073709551616) (hr : Rd w A (vals .u8 xs)) :
    Calls Tryz.prog 121 #[.int .u64 (h : Int), .slice A n c] w fun e w' => e = .returned (.int .u64 ((upd h xs : Nat) : Int)) ∧ w = w' := by
  have Hr := Lib.hid hr; have Hb := Lib.hid hb; have Hl := Lib.hid hl; clear hr hb hl
  go_enter Tryz.func121, Tryz.ntmps121
  go_wp2
  go_loop [0, 9] (fun h' i => ∃ k : Nat, k ≤ n ∧ i = .int .i64 k ∧ h' = .int .u64 ((upd h (xs.take k) : Nat) : Int)) (fun _ i => n - (intOf i).toNat)
  case atStart => exact ⟨0, Nat.zero_le _, rfl, rfl⟩
  case round =>
    obtain ⟨k, hk, rfl, rfl⟩ := hrel
    have hu := upd_lt h (xs.take k) hh
    by_cases hlt : k < n
    · obtain ⟨x, hx⟩ := get_of_lt (xs := xs) (j := k) (by rw [Hl.out]; exact hlt)
      have hx256 : x < 256 := Hb.out x (List.mem_of_getElem? hx)
      obtain ⟨b, off, hA, _, hc⟩ := Hr.out.at_ hx
      have Hx := Lib.hid hx; clear hx
      subst hA
      go_wp2
      go_round
      case rel => exact ⟨k + 1, by omega, by go_num, by rw [take_succ_of Hx.out, upd_snoc, ← stepH_val, Go.u64_xor_nat _ _ hu (by omega)]⟩
      case measure => simp [intOf]; omega
    · go_wp2
      go_ret
      exact ⟨ret_int (by rw [List.take_of_length_le (by rw [Hl.out]; omega)]), rfl⟩

set_option maxHeartbeats 400000 in
theorem refUpdate_any (h : Nat) (A : Option Addr) (n c : Nat) (xs : List Nat) (w : World) (hl : xs.length = n) (hb : ∀ x ∈ xs, x < 256) (hn : n ≤ 9223372036854775807) (hh : h < 18446744073709551616) (hr : Rd w A (vals .u8 xs)) :
    Calls Tryz.prog 95 #[.int .u64 (h : Int), .slice A n c] w fun e w' => e = .returned (.int .u64 ((upd h xs : Nat) : Int)) ∧ w = w' := by
  have Hr := Lib.hid hr; have Hb := Lib.hid hb; have Hl := Lib.hid hl; clear hr hb hl
  go_enter Tryz.func95, Tryz.ntmps95
  go_wp2
  go_loop [0, 12] (fun h' i => ∃ k : Nat, k ≤ n ∧ i = .int .i64 k ∧ h' = .int .u64 ((upd h (xs.take k) : Nat) : Int)) (fun _ i => n - (intOf i).toNat)
  case atStart => exact ⟨0, Nat.zero_le _, rfl, rfl⟩
  case round =>
    obtain ⟨k, hk, rfl, rfl⟩ := hrel
    have hu := upd_lt h (xs.take k) hh
    by_cases hlt : k < n
    · obtain ⟨x, hx⟩ := get_of_lt (xs := xs) (j := k) (by rw [Hl.out]; exact hlt)
      have hx256 : x < 256 := Hb.out x (List.mem_of_getElem? hx)
      obtain ⟨b, off, hA, _, hc⟩ := Hr.out.at_ hx
      have Hx := Lib.hid hx; clear hx
      subst hA
      go_wp2
      go_round
      case rel => exact ⟨k + 1, by omega, by go_num, int_eq (by rw [take_succ_of Hx.out, upd_snoc]; exact refStepH _ x hu hx256 (refX _ x hu hx256))⟩
      case measure => simp [intOf]; omega
    · go_wp2
      go_ret
      exact ⟨ret_int (by rw [List.take_of_length_le (by rw [Hl.out]; omega)]), rfl⟩

theorem sum_any (A : Option Addr) (n c : Nat) (xs : List Nat) (w : World) (hl : xs.length = n) (hb : ∀ x ∈ xs, x < 256) (hn : n ≤ 9223372036854775807) (hr : Rd w A (vals .u8 xs)) :
    Calls Tryz.prog 74 #[.slice A n c] w fun e w' => e = .returned (.int .u64 ((upd 14695981039346656037 xs : Nat) : Int)) ∧ w = w' := by
  have c1 := Lib.hid (update_any 14695981039346656037 A n c xs w hl hb hn (by omega) hr)
  clear hr hb hl
  go_enter Tryz.func74, Tryz.ntmps74
  go_wp2_with fail
  refine c1.out.mono ?_
  rintro e w' ⟨rfl, rfl⟩
  go_wp2
  go_ret
  exact ⟨rfl, rfl⟩
theorem refSum_any (A : Option Addr) (n c : Nat) (xs : List Nat) (w : World) (hl : xs.length = n) (hb : ∀ x ∈ xs, x < 256) (hn : n ≤ 9223372036854775807) (hr : Rd w A (vals .u8 xs)) :
    Calls Tryz.prog 46 #[.slice A n c] w fun e w' => e = .returned (.int .u64 ((upd 14695981039346656037 xs : Nat) : Int)) ∧ w = w' := by
  have c1 := Lib.hid (refUpdate_any 14695981039346656037 A n c xs w hl hb hn (by omega) hr)
  clear hr hb hl
  go_enter Tryz.func46, Tryz.ntmps46
  go_wp2_with fail
  refine c1.out.mono ?_
  rintro e w' ⟨rfl, rfl⟩
  go_wp2
  go_ret
  exact ⟨rfl, rfl⟩
end

section
open Go.RowKit
end
end Go.Proofs.YtloidkmphigbdaaGreat
