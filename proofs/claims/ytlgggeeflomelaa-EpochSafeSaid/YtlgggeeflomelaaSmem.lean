/- EpochSafe: all that it keeps in memory. -/
import Derived.Test.YtlgggeeflomelaaWsA
import Derived.Test.YtlgggeeflomelaaAp3
import Derived.Test.YtlgggeeflomelaaHeldK
namespace Go.Proofs.Ytlgggeeflomelaa
open Go.RowKit

/-- the Epochs, the reader's struct, the row of owners -/
structure SMem (w0 : World) (gx tb K : Nat) (F : Nat → Prop) (s : ESt) (t : Wt) (own : List Nat) (n : Nat) (vg vk vo : Value) (w : World) : Prop where
  e : EpIn w0 F gx 4 K s w
  m : WtM w0.heap.size tb t n vg vk w
  dis : ∀ i, WtB tb vg vk i → ¬ F i
  time : t.time ≤ K
  len : n ≤ K
  o : w.ownsRow w0.heap.size 3 1 vo n (vals .i64 own)
  od : ∀ q, vo.ownBlock = some q → ¬ WtB tb vg vk q ∧ ¬ F q
variable {w0 w w' : World} {gx tb K n : Nat} {F : Nat → Prop} {s : ESt} {t : Wt} {own : List Nat} {vg vk vo : Value}
theorem SMem.ext (h : SMem w0 gx tb K F s t own n vg vk vo w) (x : Ext w w') : SMem w0 gx tb K F s t own n vg vk vo w' := ⟨h.e.ext x, h.m.ext x, h.dis, h.time, h.len, own_ext h.o x, h.od⟩
theorem SMem.more {K' : Nat} (h : SMem w0 gx tb K F s t own n vg vk vo w) (hK : K ≤ K') : SMem w0 gx tb K' F s t own n vg vk vo w := ⟨h.e.more hK, h.m, h.dis, Nat.le_trans h.time hK, Nat.le_trans h.len hK, h.o, h.od⟩
theorem SMem.out (h : SMem w0 gx tb K F s t own n vg vk vo w) : Ext w0 w := h.e.out
/-- the Epochs went on -/
theorem SMem.go {K' : Nat} {s' : ESt} (h : SMem w0 gx tb K F s t own n vg vk vo w) (hK : K ≤ K') (g : EinGo w0 w F gx 4 K' s' w') : ∃ F', SMem w0 gx tb K' F' s' t own n vg vk vo w' := by
  obtain ⟨F', e', g', f'⟩ := g
  refine ⟨F', e', h.m.gb g' h.dis, fun i hi e => (f' i e).elim (h.dis i hi) (fun e => by have := h.m.lt i hi; omega), Nat.le_trans h.time hK, Nat.le_trans h.len hK, g'.own h.o (fun q e => (h.od q e).2), fun q e => ⟨(h.od q e).1, fun e2 => (f' q e2).elim (h.od q e).2 (fun e2 => by have := (h.o.lt q e).2; omega)⟩⟩
/-- the struct was written -/
theorem SMem.wt {t' : Wt} (h : SMem w0 gx tb K F s t own n vg vk vo w) (m' : WtM w0.heap.size tb t' n vg vk w') (g : GB w w' (WtB tb vg vk)) (ht : t'.time ≤ K) : SMem w0 gx tb K F s t' own n vg vk vo w' :=
  ⟨h.e.gb g (fun i hi e => h.dis i e hi) (fun i e => h.m.bge i e), m', h.dis, ht, h.len, g.own h.o (fun q e => (h.od q e).1), h.od⟩
theorem SMem.step {s' : ESt} {e : Ending} (h : SMem w0 gx tb K F s t own n vg vk vo w) (p : WsPost w0 w F gx tb K n s' t.time own vg vk e w') : e = .returned (.bool true) ∧ ∃ F' t', SMem w0 gx tb (K + 1) F' s' t' own n vg vk vo w' ∧ SafeR s' t' own 4 := by
  obtain ⟨rfl, F', t', e', m', r', ht, g', f'⟩ := p
  refine ⟨rfl, F', t', ⟨e', m', fun i hi e => (f' i e).elim (h.dis i hi) (fun e => by have := h.m.lt i hi; omega), by have := h.time; omega, by have := h.len; omega, g'.own h.o (fun q e => fun e2 => e2.elim (h.od q e).2 (h.od q e).1), fun q e => ⟨(h.od q e).1, fun e2 => (f' q e2).elim (h.od q e).2 (fun e2 => by have := (h.o.lt q e).2; omega)⟩⟩, r'⟩
/-- the blocks of the three rows -/
def SmB (vg vk vo : Value) (i : Nat) : Prop := vg.ownBlock = some i ∨ vk.ownBlock = some i ∨ vo.ownBlock = some i
theorem SMem.ap3 (h : SMem w0 gx tb K F s t own n vg vk vo w) : Ap3 w w w0.heap.size (SmB vg vk vo) vg vk vo n n n (vals .i64 t.given) (vals .i64 t.taken) (vals .i64 own) [] :=
  ⟨GB.refl w _, h.m.og, h.m.ok, h.o, h.m.ngk, fun q e e2 => (h.od q e2).1 (.inr (.inl e)), fun q e e2 => (h.od q e2).1 (.inr (.inr e)), fun q e => .inl (.inl e), fun q e => .inl (.inr (.inl e)), fun q e => .inl (.inr (.inr e)), fun p hp => by cases hp⟩
theorem SMem.nb (h : SMem w0 gx tb K F s t own n vg vk vo w) : ¬ SmB vg vk vo tb := fun e => by
  rcases e with e | e | e
  · exact h.m.ng e
  · exact h.m.nk e
  · exact (h.od _ e).1 (.inl rfl)
/-- a thing more -/
theorem SMem.rows {d : Nat} {vg' vk' vo' : Value} {wA : World} {bs : List (Nat × Value)} (h : SMem w0 gx tb K F s t own n vg vk vo w)
    (a : Ap3 w wA w0.heap.size (SmB vg vk vo) vg' vk' vo' (n + 1) (n + 1) (n + 1) (vals .i64 t.given ++ [.int .i64 0]) (vals .i64 t.taken ++ [.int .i64 0]) (vals .i64 own ++ [.int .i64 (d : Int)]) bs) :
    SMem w0 gx tb (K + 1) F s { t with given := t.given ++ [0], taken := t.taken ++ [0] } (own ++ [d]) (n + 1) vg' vk' vo' ((wA.setCell ⟨tb, 12, none⟩ vg').setCell ⟨tb, 13, none⟩ vk') := by
  have hsb : ∀ q, SmB vg vk vo q → ¬ F q ∧ w0.heap.size ≤ q := fun q e => by
    rcases e with e | e | e
    · exact ⟨h.dis q (.inr (.inl e)), (h.m.og.lt q e).1⟩
    · exact ⟨h.dis q (.inr (.inr e)), (h.m.ok.lt q e).1⟩
    · exact ⟨(h.od q e).2, (h.o.lt q e).1⟩
  have hF : ∀ q, (SmB vg vk vo q ∨ w.heap.size ≤ q) → ¬ F q ∧ q ≠ tb := fun q e => by
    rcases e with e | e
    · exact ⟨(hsb q e).1, fun e2 => h.nb (e2 ▸ e)⟩
    · exact ⟨fun e2 => by have := h.e.lt q e2; omega, fun e2 => by have := blk_lt h.m.blk; omega⟩
  have n1 : vg'.ownBlock ≠ some tb := fun e => (hF tb (a.s1 tb e)).2 rfl
  have n2 : vk'.ownBlock ≠ some tb := fun e => (hF tb (a.s2 tb e)).2 rfl
  have n3 : vo'.ownBlock ≠ some tb := fun e => (hF tb (a.s3 tb e)).2 rfl
  have m' := h.m.putRows (vg' := vg') (vk' := vk') (n' := n + 1) (gv := t.given ++ [0]) (tk := t.taken ++ [0]) a.gb h.nb (by rw [List.length_append, h.m.lg]; rfl) (by rw [vals_append]; exact a.o1) (by rw [vals_append]; exact a.o2) n1 n2 a.d12
  have gs : GB wA ((wA.setCell ⟨tb, 12, none⟩ vg').setCell ⟨tb, 13, none⟩ vk') (· = tb) := ((GB.refl wA (· = tb)).set tb 12 vg' (.inl rfl)).set tb 13 vk' (.inl rfl)
  refine ⟨((h.e.gb a.gb (fun i hi e => (hsb i e).1 hi) (fun i e => (hsb i e).2)).gb gs (fun i hi e => h.dis tb (.inl rfl) (e ▸ hi)) (fun i e => e ▸ h.m.ge)).more (Nat.le_succ K), m', fun i hi e => ?_, by have := h.time; dsimp only; omega, by have := h.len; omega, by rw [vals_append]; exact gs.own a.o3 (fun q e e2 => n3 (e2 ▸ e)), fun q e => ⟨fun e2 => ?_, fun e2 => (hF q (a.s3 q e)).1 e2⟩⟩
  · rcases hi with rfl | hi | hi
    · exact h.dis i (.inl rfl) e
    · exact (hF i (a.s1 i hi)).1 e
    · exact (hF i (a.s2 i hi)).1 e
  · rcases e2 with e2 | e2 | e2
    · exact n3 (e2 ▸ e)
    · exact a.d13 q e2 e
    · exact a.d23 q e2 e
theorem own_shape {v : Value} {xs : List Value} {base : Nat} (h : w.ownsRow base 3 1 v n xs) : ∃ A c, v = .slice A n c ∧ n ≤ c := by
  rcases h.2 with ⟨rfl, rfl⟩ | ⟨g, cap, cur, rfl, _, _, h1, _⟩
  · exact ⟨none, 0, rfl, Nat.le_refl _⟩
  · exact ⟨_, cap, rfl, h1⟩
/-- what EpochSafe keeps from round to round -/
def SafeRd (w0 : World) (gx tb K : Nat) (vo : Value) (w : World) : Prop := ∃ F s t own n vg vk, SMem w0 gx tb K F s t own n vg vk vo w ∧ SafeR s t own 4
theorem SafeRd.ext (h : SafeRd w0 gx tb K vo w) (x : Ext w w') : SafeRd w0 gx tb K vo w' := by
  obtain ⟨F, s, t, own, n, vg, vk, h, r⟩ := h
  exact ⟨F, s, t, own, n, vg, vk, h.ext x, r⟩
theorem SafeRd.more {K' : Nat} (h : SafeRd w0 gx tb K vo w) (hK : K ≤ K') : SafeRd w0 gx tb K' vo w := by
  obtain ⟨F, s, t, own, n, vg, vk, h, r⟩ := h
  exact ⟨F, s, t, own, n, vg, vk, h.more hK, r⟩
theorem SafeRd.out (h : SafeRd w0 gx tb K vo w) : Ext w0 w := by
  obtain ⟨F, s, t, own, n, vg, vk, h, r⟩ := h
  exact h.out
def wt0 : Wt := ⟨[0, 0, 0, 0], [0, 0, 0, 0], [0, 0, 0, 0], [], [], 0⟩
theorem safe_new : SafeR eInit wt0 [] 4 := by
  refine ⟨⟨rfl, rfl, rfl, rfl, rfl, fun m hm => absurd hm (Nat.not_lt_zero m)⟩, fun d hd => ⟨⟨fun h => absurd rfl h, fun h => ?_⟩, List.nodup_nil, fun x hx => (by cases hx), fun m hm => absurd hm (Nat.not_lt_zero m)⟩, fun d hd op th e => (by cases e), .inl rfl⟩
  exfalso
  apply h
  rcases (by omega : d = 0 ∨ d = 1 ∨ d = 2 ∨ d = 3) with rfl | rfl | rfl | rfl <;> rfl
theorem smem_new {F : Nat → Prop} {w : World} (he : EpIn w0 F gx 4 0 eInit w) (hb : w.heap[tb]? = some (.cells (wtCells wt0 (.slice none 0 0) (.slice none 0 0)).toArray 63 (0, 0))) (h1 : w0.heap.size ≤ tb) (h2 : ¬ F tb) : SafeRd w0 gx tb 0 (.slice none 0 0) w := by
  refine ⟨F, eInit, wt0, [], 0, .slice none 0 0, .slice none 0 0, ⟨he, ⟨rfl, rfl, rfl, rfl, hb, World.ownsRow_nil _ _ _ _, World.ownsRow_nil _ _ _ _, h1, fun e => (by cases e), fun e => (by cases e), fun q e => (by cases e)⟩, fun i hi e => ?_, Nat.le_refl _, Nat.le_refl _, World.ownsRow_nil _ _ _ _, fun q e => (by cases e)⟩, safe_new⟩
  rcases hi with rfl | hi | hi
  · exact h2 e
  · cases hi
  · cases hi
end Go.Proofs.Ytlgggeeflomelaa
