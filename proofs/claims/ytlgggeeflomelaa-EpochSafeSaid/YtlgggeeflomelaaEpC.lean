/- epoch: what a pending call's function leaves; Pin's functions. -/
import Derived.Test.YtlgggeeflomelaaEpB
import Derived.Test.YtlgggeeflomelaaPermPlain
namespace Go.Proofs.Ytlgggeeflomelaa
open Go.RowKit

/-- things that are answered: new memory, not of the Epochs -/
def ThOk (w w' : World) (F' : Nat → Prop) (A : Option Addr) (m k : Nat) (xs : List Int) : Prop := w'.ownsRow w.heap.size 3 1 (.slice A m k) m (ivals xs) ∧ ∀ q, (Value.slice A m k).ownBlock = some q → ¬ F' q
/-- what a pending call's function leaves: the next function is v, and not yet stored -/
def EClo (w : World) (C F : Nat → Prop) (gx gm n who : Nat) (L : List AccE) (s : ESt) (cl : ECall) (done : Bool) (er nu : Int) (xs : List Int) (e : Ending) (w' : World) : Prop :=
  ∃ v A m k C' F', e = .returned (.tuple #[v, .agg #[.bool done, .int .i64 er, .int .i64 nu, .slice A m k]]) ∧ EpAt w' C' F' gx gm n L s ∧ PendE w' C' F' gx who v cl ∧ GB w w' C ∧ (∀ i, C' i → C i ∨ w.heap.size ≤ i) ∧ (∀ i, F i → F' i) ∧ (∀ i, F' i → F i ∨ w.heap.size ≤ i) ∧ ThOk w w' F' A m k xs
theorem EpAt.more {w : World} {C F F' : Nat → Prop} {gx gm n : Nat} {L : List AccE} {s : ESt} (h : EpAt w C F gx gm n L s) (h1 : ∀ i, F i → F' i) (h2 : ∀ i, F' i → i < w.heap.size) : EpAt w C F' gx gm n L s := by
  obtain ⟨Fm, gw, ws, ps, k1, k2, k3, k4, k5, k6, k7, k8, k9, k10, k11, k12, k13, k14, k15⟩ := h
  refine ⟨Fm, gw, ws, ps, k1, k2, k3, k4, k5, fun i v hv => ?_, k7, k8, k9, k10, k11, k12, k13, fun i hi => h1 i (k14 i hi), h2⟩
  obtain ⟨a, b⟩ := k6 i v hv
  exact ⟨a.gb (GB.refl w (fun _ => False)) (fun _ e => e.elim) (fun _ _ e => .inl e) h1, b⟩
/-- the state is there, the next function is made -/
theorem eclo_of {w w2 w3 : World} {C F : Nat → Prop} {gx gm n who : Nat} {L : List AccE} {s : ESt} {cl : ECall} (g : EpGo w C F gx gm n L s w2) (x3 : Ext w2 w3) {v : Value} (hp : ∀ C' F' : Nat → Prop, (∀ i, C' i → i < w2.heap.size) → (∀ i, C' i → C i ∨ w.heap.size ≤ i) → (∀ i, F i → F' i) → GB w w2 C → PendE w3 C' (fun i => F' i ∨ (w2.heap.size ≤ i ∧ i < w3.heap.size)) gx who v cl) (done : Bool) (er nu : Int) :
    EClo w C F gx gm n who L s cl done er nu [] (.returned (.tuple #[v, .agg #[.bool done, .int .i64 er, .int .i64 nu, .slice none 0 0]])) w3 := by
  obtain ⟨C', F', h1, h2, h3, h4, h5⟩ := g
  have hlt := h1.lt
  refine ⟨v, none, 0, 0, C', fun i => F' i ∨ (w2.heap.size ≤ i ∧ i < w3.heap.size), rfl, (h1.ext x3).more (fun i hi => .inl hi) (fun i hi => ?_), hp C' F' (fun i hi => hlt i (h1.sub i hi)) h3 h4 h2, h2.ext x3, h3, fun i hi => .inl (h4 i hi), fun i hi => ?_, World.ownsRow_nil _ _ _ _, fun q e => by cases e⟩
  · rcases hi with hi | hi
    · exact Nat.lt_of_lt_of_le (hlt i hi) x3.size
    · exact hi.2
  · rcases hi with hi | hi
    · exact h5 i hi
    · exact .inr (Nat.le_trans h2.size hi.1)
theorem eclo_idle {w w2 w3 : World} {C F : Nat → Prop} {gx gm n who : Nat} {L : List AccE} {s : ESt} (g : EpGo w C F gx gm n L s w2) (x3 : Ext w2 w3) (er nu : Int) :
    EClo w C F gx gm n who L s .idle true er nu [] (.returned (.tuple #[.nilFunc, .agg #[.bool true, .int .i64 er, .int .i64 nu, .slice none 0 0]])) w3 :=
  eclo_of (v := .nilFunc) (cl := .idle) g x3 (fun _ _ _ _ _ _ => rfl) true er nu
theorem BoxAt.ext {w w' : World} {C F : Nat → Prop} {p v : Value} (h : BoxAt w C F p v) (x : Ext w w') : BoxAt w' C F p v := h.gb (GB.of_ext (fun _ => False) x) (fun _ e => e.elim) (fun _ _ e => .inl e) (fun _ e => e)
/-- a box of before, behind it all -/
theorem box_old {w0 w w2 : World} {C F C' F' : Nat → Prop} {p v : Value} (h : BoxAt w0 C F p v) (x : Ext w0 w) (g : GB w w2 C) (hC : ∀ i, C' i → C i ∨ w.heap.size ≤ i) (hF : ∀ i, F i → F' i) {w3 : World} (x3 : Ext w2 w3) (N : Nat → Prop) : BoxAt w3 C' (fun i => F' i ∨ N i) p v :=
  ((h.ext x).gb g (fun _ e => .inl e) (fun i hi e => (hC i e).elim .inl fun h => by omega) (fun i e => .inl (hF i e))).ext x3
/-- a result that is laid into a new row -/
theorem eclo_put {w W w3 : World} {C F : Nat → Prop} {gx gm n who : Nat} {L : List AccE} {s : ESt} {cl : ECall} {done : Bool} {er nu : Int} {xs : List Int} {e : Ending} (xW : Ext w W) (hr : w.heap.size < W.heap.size) (hlt : ∀ i, F i → i < w.heap.size) (_hC : ∀ i, C i → F i) (a b c d : Value) (h : EClo W C F gx gm n who L s cl done er nu xs e w3) :
    EClo w C F gx gm n who L s cl done er nu xs e (put4 w3 w.heap.size a b c d) := by
  obtain ⟨v, A, m, k, C', F', rfl, h1, h2, h3, h4, h5, h6, h7, h8⟩ := h
  have hn : ¬ F' w.heap.size := fun e => by
    rcases h6 _ e with h | h
    · exact Nat.lt_irrefl _ (hlt _ h)
    · omega
  have gs := put4_gb w3 w.heap.size a b c d
  refine ⟨v, A, m, k, C', F', rfl, h1.gb gs (fun i hi e => hn (e ▸ hi)), h2.gb gs (fun i e => .inr (.inl (e ▸ hn))) (fun _ _ e => .inl e) (fun _ e => e), (GB.back xW h3).trans gs (fun i e => .inr (by omega)), fun i hi => (h4 i hi).imp id (fun e => by omega), h5, fun i hi => (h6 i hi).imp id (fun e => by omega), own_base (gs.own h7 (fun q hq e => by have := (h7.lt q hq).1; omega)) (by omega), h8⟩
theorem EpAt.word {w : World} {C F : Nat → Prop} {gx gm n : Nat} {L : List AccE} {s : ESt} (h : EpAt w C F gx gm n L s) (hL : L.length ≤ 100000) (who : Nat) (hw : who < 64) :
    Calls Try.prog 80 #[.pointer (some ⟨gm, 0, none⟩), .int .i64 (who : Int), .int .i64 0] w (fun e w' => e = .returned (.tuple #[.int .u64 (s.ep : Int), .int .i64 0]) ∧ EpGo w C F gx gm n (L ++ [⟨who, 1, 0, s.ep, 0, true⟩]) s w') := by
  obtain ⟨Fm, gw, ws, h1, h2, _, _, _, _, _, _, hgo⟩ := h.mach
  refine (load_ok w Fm gm ws 0 L who 0 s.ep h1 (by omega) (by omega) (by omega) h2.2.1).mono ?_
  rintro e w' ⟨rfl, hg⟩
  exact ⟨rfl, hgo _ _ _ _ rfl h2 hg⟩
theorem EpAt.pinw {w : World} {C F : Nat → Prop} {gx gm n : Nat} {L : List AccE} {s : ESt} (h : EpAt w C F gx gm n L s) (hL : L.length ≤ 100000) (who i : Nat) (wi : Int) (hwi : wi = ((1 + i : Nat) : Int)) (hw : who < 64) (hi : i < n) :
    Calls Try.prog 80 #[.pointer (some ⟨gm, 0, none⟩), .int .i64 (who : Int), .int .i64 wi] w (fun e w' => e = .returned (.tuple #[.int .u64 (s.pw i : Int), .int .i64 0]) ∧ EpGo w C F gx gm n (L ++ [⟨who, 1, (1 + i : Nat), s.pw i, 0, true⟩]) s w') := by
  subst hwi
  obtain ⟨Fm, gw, ws, h1, h2, _, _, _, _, _, _, hgo⟩ := h.mach
  refine (load_ok w Fm gm ws 0 L who (1 + i) (s.pw i) h1 (by omega) (by omega) (by omega) (h2.2.2 i hi)).mono ?_
  rintro e w' ⟨rfl, hg⟩
  exact ⟨rfl, hgo _ _ _ _ rfl h2 hg⟩
/-- the word of a worker is read without an access -/
theorem EpAt.peek {w : World} {C F : Nat → Prop} {gx gm n : Nat} {L : List AccE} {s : ESt} (h : EpAt w C F gx gm n L s) (i : Nat) (wi : Int) (hwi : wi = ((1 + i : Nat) : Int)) (hi : i < n) :
    Calls Try.prog 54 #[.pointer (some ⟨gm, 0, none⟩), .int .i64 wi] w (fun e w' => e = .returned (.tuple #[.int .u64 (s.pw i : Int), .int .i64 0]) ∧ w = w') := by
  subst hwi
  obtain ⟨Fm, gw, ws, h1, h2, _⟩ := h.mach
  exact word_ok w Fm gm ws 0 L (1 + i) (s.pw i) h1 (h2.2.2 i hi)
theorem EpAt.peek0 {w : World} {C F : Nat → Prop} {gx gm n : Nat} {L : List AccE} {s : ESt} (h : EpAt w C F gx gm n L s) :
    Calls Try.prog 54 #[.pointer (some ⟨gm, 0, none⟩), .int .i64 0] w (fun e w' => e = .returned (.tuple #[.int .u64 (s.ep : Int), .int .i64 0]) ∧ w = w') := by
  obtain ⟨Fm, gw, ws, h1, h2, _⟩ := h.mach
  exact word_ok w Fm gm ws 0 L 0 s.ep h1 h2.2.1
/-- a worker's word is swapped: done where it is old -/
theorem EpAt.swapw {w : World} {C F : Nat → Prop} {gx gm n : Nat} {L : List AccE} {s : ESt} (h : EpAt w C F gx gm n L s) (hL : L.length ≤ 100000) (who old new : Nat) (wi ni : Int) (hwi : wi = ((1 + who : Nat) : Int)) (hni : ni = (new : Int)) (hw : who < 64) (hi : who < n) :
    Calls Try.prog 87 #[.pointer (some ⟨gm, 0, none⟩), .int .i64 (who : Int), .int .i64 wi, .int .u64 (old : Int), .int .u64 ni] w (fun e w' => ∃ d a, e = .returned (.tuple #[.bool d, .int .i64 0]) ∧ EpGo w C F gx gm n (L ++ [a]) { s with pw := if s.pw who = old then updG s.pw who new else s.pw } w') := by
  subst hwi hni
  obtain ⟨Fm, gw, ws, h1, h2, _, _, _, _, _, _, hgo⟩ := h.mach
  by_cases e : s.pw who = old
  · subst e
    refine (swap_hit w Fm gm ws 0 L who (1 + who) (s.pw who) new h1 (by omega) (by omega) (by omega) (h2.2.2 who hi)).mono ?_
    rintro e w' ⟨rfl, hg⟩
    refine ⟨true, _, rfl, hgo _ _ _ _ rfl ?_ hg⟩
    rw [if_pos rfl]
    exact words_pin h2 hi new s.wk
  · refine (swap_miss w Fm gm ws 0 L who (1 + who) (s.pw who) old new h1 (by omega) (by omega) (by omega) (h2.2.2 who hi) e).mono ?_
    rintro e' w' ⟨rfl, hg⟩
    refine ⟨false, _, rfl, hgo _ _ _ _ rfl ?_ hg⟩
    rw [if_neg e]
    exact h2
/-- the epoch is swapped -/
theorem EpAt.swap0 {w : World} {C F : Nat → Prop} {gx gm n : Nat} {L : List AccE} {s : ESt} (h : EpAt w C F gx gm n L s) (hL : L.length ≤ 100000) (who old new : Nat) (ni : Int) (hni : ni = (new : Int)) (hw : who < 64) :
    Calls Try.prog 87 #[.pointer (some ⟨gm, 0, none⟩), .int .i64 (who : Int), .int .i64 0, .int .u64 (old : Int), .int .u64 ni] w (fun e w' => ∃ a, e = .returned (.tuple #[.bool (decide (s.ep = old)), .int .i64 0]) ∧ EpGo w C F gx gm n (L ++ [a]) { s with ep := if s.ep = old then new else s.ep } w') := by
  subst hni
  obtain ⟨Fm, gw, ws, h1, h2, _, _, _, _, _, _, hgo⟩ := h.mach
  by_cases e : s.ep = old
  · subst e
    refine (swap_hit w Fm gm ws 0 L who 0 s.ep new h1 (by omega) (by omega) (by omega) h2.2.1).mono ?_
    rintro e w' ⟨rfl, hg⟩
    refine ⟨_, by rw [decide_eq_true rfl], hgo _ _ _ _ rfl ?_ hg⟩
    rw [if_pos rfl]
    exact words_ep h2 new s.wk
  · refine (swap_miss w Fm gm ws 0 L who 0 s.ep old new h1 (by omega) (by omega) (by omega) h2.2.1 e).mono ?_
    rintro e' w' ⟨rfl, hg⟩
    refine ⟨_, by rw [decide_eq_false e], hgo _ _ _ _ rfl ?_ hg⟩
    rw [if_neg e]
    exact h2
theorem epi_cells {w : World} {C F : Nat → Prop} {gx gm n : Nat} {L : List AccE} {s : ESt} (h : EpAt w C F gx gm n L s) : w.cell? ⟨gx, 0, none⟩ = some (.pointer (some ⟨gm, 0, none⟩)) := by
  obtain ⟨Fm, gw, ws, _, _, h1, _⟩ := h.mach
  exact h1
theorem ep_r {w0 w w2 : World} {C F : Nat → Prop} {gx gm n : Nat} {L : List AccE} {s : ESt} {r : Nat} {o : Obj} (g : EpGo w C F gx gm n L s w2) (k : w.heap[r]? = some o) (hr : ¬ C r) (_h : w0 = w0) : w2.heap[r]? = some o := by
  obtain ⟨C', F', h1, h2, _⟩ := g
  exact h2.blk k hr
end Go.Proofs.Ytlgggeeflomelaa
