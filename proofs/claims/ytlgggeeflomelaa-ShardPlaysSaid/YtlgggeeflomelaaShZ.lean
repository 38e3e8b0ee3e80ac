/- spigotref14: DocStep whole: it goes on as the program's. -/
import Derived.Test.YtlgggeeflomelaaShX2
import Derived.Test.YtlgggeeflomelaaShXf
namespace Go.Proofs.Ytlgggeeflomelaa
open Go.RowKit

/-- a version that was read is none of 0 -/
def SRead (s : SSt) : Prop := ∀ d, match s.call d with
  | .swap _ _ _ v _ _ => 1 ≤ v
  | _ => True
def ReadOk : SCall → Prop
  | .swap _ _ _ v _ _ => 1 ≤ v
  | _ => True
theorem sread_put {s : SSt} {who : Nat} {c : SCall} (h : SRead s) (hc : ReadOk c) : SRead (s.put who c) := fun d => by
  by_cases e : d = who
  · subst e
    rw [sput_self]
    cases c <;> exact hc
  · rw [sput_other s c e]
    exact h d
theorem sread_new : SRead sInit := fun _ => trivial
theorem sread_step {s : SSt} {who : Nat} (h : SRead s) (hi : SInv s) : SRead (sStep s who).1 := by
  unfold sStep
  cases he : s.call who with
  | idle => exact h
  | begun op key val =>
    dsimp only
    split
    · split <;> exact sread_put h trivial
    · split
      · exact sread_put h trivial
      · exact sread_put h (show 1 ≤ s.ver from hi.2.1)
  | swap op key val v m n =>
    dsimp only
    split
    · intro d
      exact sread_put (who := who) (c := .idle) h trivial d
    · exact sread_put h trivial
set_option maxHeartbeats 1000000 in
set_option maxRecDepth 100000 in
theorem dstep_idle (w : World) (G : Nat → Prop) (gk who : Nat) (s : SSt) (h : DocAt w G gk s) (hw : who < 64) (hs : s.call who = .idle) :
    Calls Try.prog 43 #[.pointer (some ⟨gk, 0, none⟩), .int .i64 (who : Int)] w (RetE (.tuple #[.agg #[.bool false, .int .i64 0, .int .i64 0], .int .i64 7]) w) := by
  have a1 : ¬ (who : Int) < 0 := by omega
  have a2 : ¬ (63 : Int) < (who : Int) := by omega
  have a3 : (0 : Int) ≤ (who : Int) := by omega
  have a4 : (who : Int) < 64 := by omega
  have xW : Ext w (w.alloc (.cells #[.bool false, .int .i64 0, .int .i64 0] 86)) := (Ext.refl w).alloc _
  have k1 := dcell (h.ext xW) hw
  rw [hs] at k1
  have c0 : (w.alloc (.cells #[.bool false, .int .i64 0, .int .i64 0] 86)).cell? ⟨gk, 2 + who * 4, none⟩ = some (.int .u8 0) := k1
  clear h k1 hs
  go_enter Try.func43, Try.ntmps43
  go_wp2_with fail
  refine bodyPost_ret (results_row_tmp (p := 4) (u := 5) rfl _ _ w.heap.size _ #[.bool false, .int .i64 0, .int .i64 0] (0, 0) _ rfl (blk_new w _) Try.underlying86 (by rfl) (by kernel_rfl)) rfl ?_
  exact ⟨rfl, xW⟩
theorem dstep_any (w : World) (G : Nat → Prop) (gk who : Nat) (s : SSt) (h : DocAt w G gk s) (hi : SInv s) (hr : SRead s) (hw : who < 64) (hs : s.call who ≠ .idle) (hvb : s.ver ≤ 1000000) :
    Calls Try.prog 43 #[.pointer (some ⟨gk, 0, none⟩), .int .i64 (who : Int)] w (DStepR w G gk (sStep s who)) := by
  have hc := hi.2.2 who
  have hrw := hr who
  cases he : s.call who with
  | idle => exact absurd he hs
  | begun op key val =>
    rw [he] at hc
    have e9 := begOut_step he
    rw [e9]
    obtain ⟨o1, o4, -⟩ := hc
    unfold begOut
    rcases (by omega : op = 1 ∨ op = 2 ∨ op = 3 ∨ op = 4) with rfl | rfl | rfl | rfl
    · cases hh : hasE s.lst key with
      | true => exact dstep_b1h w G gk who key val s h hi hw he hh
      | false => exact dstep_b1n w G gk who key val s h hi hw he hh
    · rw [if_neg (by decide)]
      cases hh : hasE s.lst key with
      | true =>
        have e0 : (madeE 2 key val s.lst).2.2 = 0 := by simp [madeE, hh]
        rw [if_neg (by rw [e0]; simp)]
        exact dstep_b2h w G gk who key val s h hi hw he hh _ _
      | false =>
        by_cases hf : s.lst.length = 4096
        · have e0 : (madeE 2 key val s.lst).2.2 = 10 := by simp [madeE, hh, hf]
          rw [e0, if_pos (by decide)]
          exact dstep_b2f w G gk who key val s h hi hw he hh hf
        · have e0 : (madeE 2 key val s.lst).2.2 = 0 := by simp [madeE, hh, hf]
          rw [if_neg (by rw [e0]; simp)]
          exact dstep_b2n w G gk who key val s h hi hw he hh _ _ hf
    · rw [if_neg (by decide)]
      cases hh : hasE s.lst key with
      | true =>
        have e0 : (madeE 3 key val s.lst).2.2 = 0 := by simp [madeE, hh]
        rw [if_neg (by rw [e0]; simp)]
        exact dstep_b3h w G gk who key val s h hi hw he hh _ _
      | false =>
        by_cases hf : s.lst.length = 4096
        · have e0 : (madeE 3 key val s.lst).2.2 = 10 := by simp [madeE, hh, hf]
          rw [e0, if_pos (by decide)]
          exact dstep_b3f w G gk who key val s h hi hw he hh hf
        · have e0 : (madeE 3 key val s.lst).2.2 = 0 := by simp [madeE, hh, hf]
          rw [if_neg (by rw [e0]; simp)]
          exact dstep_b3n w G gk who key val s h hi hw he hh _ _ hf
    · rw [if_neg (by decide)]
      cases hh : hasE s.lst key with
      | true =>
        have e0 : (madeE 4 key val s.lst).2.2 = 0 := by simp [madeE, hh]
        rw [if_neg (by rw [e0]; simp)]
        exact dstep_b4h w G gk who key val s h hi hw he hh _ _
      | false =>
        have e0 : (madeE 4 key val s.lst).2.2 = 7 := by simp [madeE, hh]
        rw [e0, if_pos (by decide)]
        exact dstep_b4n w G gk who key val s h hi hw he hh
  | swap op key val v m n =>
    rw [he] at hc hrw
    obtain ⟨c1, c2, c3, c4, c5, c6⟩ := hc
    obtain ⟨o1, o4, -⟩ := c1
    by_cases hv : s.ver = v
    · subst hv
      have e := c5 rfl
      have e9 : sStep s who = ({ s with ver := s.ver + 1, lst := m }.put who .idle, ⟨true, 0, n⟩) := by
        unfold sStep
        rw [he]
        dsimp only
        rw [if_pos rfl]
        rfl
      rw [e9]
      rcases (by omega : op = 2 ∨ op = 3 ∨ op = 4) with rfl | rfl | rfl
      · have q := dstep_f2 w G gk who key val m n s h hi hw he hvb
        by_cases hf : hasE s.lst key = false ∧ s.lst.length = 4096
        · rw [show madeE 2 key val s.lst = ([], 0, 10) by simp [madeE, hf.1, hf.2]] at e
          cases e
        · rw [show madeE 2 key val s.lst = (putE s.lst key val, val, 0) by simp only [madeE, if_neg hf]; simp] at e
          injection e with e1 e2
          injection e2 with e2 _
          rw [← e1, ← e2]
          exact q
      · have q := dstep_f3 w G gk who key val m n s h hi hw he hvb
        by_cases hf : hasE s.lst key = false ∧ s.lst.length = 4096
        · rw [show madeE 3 key val s.lst = ([], 0, 10) by simp [madeE, hf.1, hf.2]] at e
          cases e
        · rw [show madeE 3 key val s.lst = (putE s.lst key (min (getE s.lst key + val) 4611686018427387903), min (getE s.lst key + val) 4611686018427387903, 0) by simp only [madeE, if_neg hf]; simp] at e
          injection e with e1 e2
          injection e2 with e2 _
          rw [← e1, ← e2]
          exact q
      · cases hh : hasE s.lst key with
        | false =>
          rw [show madeE 4 key val s.lst = ([], 0, 7) by simp [madeE, hh]] at e
          cases e
        | true =>
          have q := dstep_f4 w G gk who key val m n s h hi hw he hh hvb
          rw [show madeE 4 key val s.lst = (dropE s.lst key, getE s.lst key, 0) by simp [madeE, hh]] at e
          injection e with e1 e2
          injection e2 with e2 _
          rw [← e1, ← e2]
          exact q
    · have e9 : sStep s who = (s.put who (.begun op key val), ⟨false, 0, 0⟩) := by
        unfold sStep
        rw [he]
        dsimp only
        rw [if_neg hv]
      rw [e9]
      rcases (by omega : op = 2 ∨ op = 3 ∨ op = 4) with rfl | rfl | rfl
      · exact dstep_s2e w G gk who key val v m n s h hi hw he hrw hv
      · exact dstep_s3e w G gk who key val v m n s h hi hw he hrw hv
      · exact dstep_s4e w G gk who key val v m n s h hi hw he hrw hv

/-- both in memory, with the same state; what is in S is none of theirs -/
def PlaysX (w0 : World) (gx gk k : Nat) (S : Nat → Prop) (w : World) : Prop :=
  ∃ F G s, ShIn w0 F gx (1 + k) s w ∧ DocAt w G gk s ∧ SRead s ∧ (∀ i, F i → ¬ G i) ∧ (∀ i, G i → w0.heap.size ≤ i) ∧ ∀ i, S i → ¬ F i ∧ ¬ G i
theorem PlaysX.ext {w0 w w' : World} {gx gk k : Nat} {S : Nat → Prop} (h : PlaysX w0 gx gk k S w) (x : Ext w w') : PlaysX w0 gx gk k S w' := by
  obtain ⟨F, G, s, h1, h2, h3⟩ := h
  exact ⟨F, G, s, h1.ext x, h2.ext x, h3⟩
theorem PlaysX.out {w0 w : World} {gx gk k : Nat} {S : Nat → Prop} (h : PlaysX w0 gx gk k S w) : Ext w0 w := by
  obtain ⟨F, G, s, h1, h2, h3⟩ := h
  exact h1.out
theorem PlaysX.less {w0 w : World} {gx gk k : Nat} {S S' : Nat → Prop} (h : PlaysX w0 gx gk k S w) (hs : ∀ i, S' i → S i) : PlaysX w0 gx gk k S' w := by
  obtain ⟨F, G, s, h1, h2, h3, h4, h5, h6⟩ := h
  exact ⟨F, G, s, h1, h2, h3, h4, h5, fun i hi => h6 i (hs i hi)⟩
theorem PlaysX.up {w0 w : World} {gx gk k : Nat} {S : Nat → Prop} (h : PlaysX w0 gx gk k S w) : PlaysX w0 gx gk (k + 1) S w := by
  obtain ⟨F, G, s, h1, h2⟩ := h
  exact ⟨F, G, s, h1.more (by omega), h2⟩
theorem PlaysX.fresh {w0 w w' : World} {gx gk k : Nat} {S : Nat → Prop} (h : PlaysX w0 gx gk k S w) (x : Ext w w') : PlaysX w0 gx gk k (w.heap.size ≤ ·) w' := by
  obtain ⟨F, G, s, h1, h2, h3, h4, h5, h6⟩ := h
  exact ⟨F, G, s, h1.ext x, h2.ext x, h3, h4, h5, fun i hi => ⟨fun e => by have := h1.lt i e; omega, fun e => by have := h2.2.2.2.2.2 i e; omega⟩⟩
theorem PlaysX.far {w0 w w' : World} {gx gk k : Nat} {S T : Nat → Prop} (h : PlaysX w0 gx gk k S w) (g : GB w w' T) (hT : ∀ i, T i → S i ∧ w0.heap.size ≤ i) : PlaysX w0 gx gk k S w' := by
  obtain ⟨F, G, s, h1, h2, h3, h4, h5, h6⟩ := h
  exact ⟨F, G, s, h1.gb g (fun i hi e => (h6 i (hT i e).1).1 hi) (fun i e => (hT i e).2), h2.gb g (fun i e hi => (h6 i (hT i e).1).2 hi), h3, h4, h5, h6⟩
theorem plays_new {w0 w2 w3 : World} {F : Nat → Prop} {gx gk : Nat} (h : ShIn w0 F gx 1 sInit w2) (x : Ext w2 w3) (d : DocAt w3 (· = gk) gk sInit) (hg : gk = w2.heap.size) : PlaysX w0 gx gk 0 (fun _ => False) w3 :=
  ⟨F, (· = gk), sInit, h.ext x, d, sread_new, fun i hi e => by have := h.lt i hi; omega, fun i e => by have := h.out.size; omega, fun _ e => e.elim⟩
/-- two calls, one behind the other -/
def Both2 (w0 : World) (gx gk k N : Nat) (f1 f2 : FuncId) (a1 a2 : Array Value) (r : Value) (W : World) : Prop :=
  Calls Try.prog f1 a1 W fun e w1 => e = .returned r ∧ GB W w1 (· < N) ∧ ∀ u, Ext w1 u → Calls Try.prog f2 a2 u fun e w2 => e = .returned r ∧ GB u w2 (· < N) ∧ PlaysX w0 gx gk k (fun i => N ≤ i ∧ i < W.heap.size) w2
theorem both_const {w0 W : World} {gx gk k N : Nat} {f1 f2 : FuncId} {a1 a2 : Array Value} {r : Value} (h : PlaysX w0 gx gk k (N ≤ ·) W) (h1 : Calls Try.prog f1 a1 W (RetE r W)) (h2 : ∀ u, Ext W u → Calls Try.prog f2 a2 u (RetE r u)) : Both2 w0 gx gk k N f1 f2 a1 a2 r W := by
  refine h1.mono ?_
  rintro e w1 ⟨rfl, x1⟩
  refine ⟨rfl, GB.of_ext _ x1, fun u xu => (h2 u (x1.trans xu)).mono ?_⟩
  rintro e w2 ⟨rfl, x2⟩
  exact ⟨rfl, GB.of_ext _ x2, (h.ext ((x1.trans xu).trans x2)).less (fun i hi => hi.1)⟩
/-- the program's call goes on, then the document's -/
theorem sd_join {w0 W w1 u w2 : World} {F G F' G' : Nat → Prop} {gx gk k N : Nat} {s s' : SSt} (d : DocAt W G gk s) (hN : ∀ i, N ≤ i → ¬ F i ∧ ¬ G i) (hFG : ∀ i, F i → ¬ G i) (hG0 : ∀ i, G i → w0.heap.size ≤ i) (g1 : GB W w1 F)
    (i1 : ShIn w0 F' gx (1 + k) s' w1) (f1 : ∀ i, F' i → F i ∨ W.heap.size ≤ i) (xu : Ext w1 u) (d2 : DocAt w2 G' gk s') (g2 : GB u w2 (· = gk)) (f2 : ∀ i, G' i → G i ∨ u.heap.size ≤ i) (hr : SRead s') : PlaysX w0 gx gk k (fun i => N ≤ i ∧ i < W.heap.size) w2 := by
  have hlt := d.2.2.2.2.2
  have hgk := d.2.2.2.2.1
  have hsz := g1.size; have hsu := xu.size
  have hFk : ¬ F' gk := fun e => (f1 _ e).elim (fun e => hFG _ e hgk) (fun e => by have := hlt _ hgk; omega)
  refine ⟨F', G', s', (i1.ext xu).gb g2 (fun i hi e => hFk (e ▸ hi)) (fun i e => e ▸ hG0 _ hgk), d2, hr, fun i hi hg => ?_, fun i hi => ?_, fun i hi => ⟨fun e => ?_, fun e => ?_⟩⟩
  · have := i1.lt i hi
    rcases f2 i hg with hg | hg
    · rcases f1 i hi with hi | hi
      · exact hFG i hi hg
      · have := hlt i hg; omega
    · omega
  · rcases f2 i hi with hg | hg
    · exact hG0 i hg
    · have := i1.out.size; omega
  · rcases f1 i e with e | e
    · exact (hN i hi.1).1 e
    · omega
  · rcases f2 i e with e | e
    · exact (hN i hi.1).2 e
    · omega
/-- the document's call goes on, then the program's -/
theorem ds_join {w0 W w1 u w2 : World} {F G F' G' : Nat → Prop} {gx gk k N : Nat} {s s' : SSt} (hi0 : ShIn w0 F gx (1 + k) s W) (d : DocAt W G gk s) (hN : ∀ i, N ≤ i → ¬ F i ∧ ¬ G i) (hFG : ∀ i, F i → ¬ G i) (hG0 : ∀ i, G i → w0.heap.size ≤ i) (g1 : GB W w1 (· = gk))
    (d1 : DocAt w1 G' gk s') (f1 : ∀ i, G' i → G i ∨ W.heap.size ≤ i) (xu : Ext w1 u) (i2 : ShIn w0 F' gx (1 + k) s' w2) (g2 : GB u w2 F) (f2 : ∀ i, F' i → F i ∨ u.heap.size ≤ i) (hr : SRead s') : PlaysX w0 gx gk k (fun i => N ≤ i ∧ i < W.heap.size) w2 := by
  have hlt := d.2.2.2.2.2
  have hgk := d.2.2.2.2.1
  have hsz := g1.size; have hsu := xu.size
  have hd1 := d1.2.2.2.2.2
  have hFG' : ∀ i, F i → ¬ G' i := fun i hi e => (f1 i e).elim (fun e => hFG i hi e) (fun e => by have := hi0.lt i hi; omega)
  refine ⟨F', G', s', i2, (d1.ext xu).gb g2 (fun i hi => hFG' i hi), hr, fun i hi hg => ?_, fun i hi => ?_, fun i hi => ⟨fun e => ?_, fun e => ?_⟩⟩
  · have := hd1 i hg
    rcases f2 i hi with hi | hi
    · exact hFG' i hi hg
    · omega
  · rcases f1 i hi with hg | hg
    · exact hG0 i hg
    · have := hi0.out.size; omega
  · rcases f2 i e with e | e
    · exact (hN i hi.1).1 e
    · omega
  · rcases f1 i e with e | e
    · exact (hN i hi.1).2 e
    · omega
theorem plays_step (w0 W : World) (gx gk k N : Nat) (who : Int) (h : PlaysX w0 gx gk k (N ≤ ·) W) (hk : k ≤ 1000) :
    ∃ (dn : Bool) (er : Nat) (nu : Int) (ec : Nat), Both2 w0 gx gk (k + 1) N 37 43 #[.pointer (some ⟨gx, 0, none⟩), .int .i64 who] #[.pointer (some ⟨gk, 0, none⟩), .int .i64 who] (.tuple #[.agg #[.bool dn, .int .i64 (er : Int), .int .i64 nu], .int .i64 (ec : Int)]) W := by
  by_cases hw : 0 ≤ who ∧ who < 64
  · obtain ⟨d, rfl⟩ : ∃ d : Nat, who = (d : Int) := ⟨who.toNat, by omega⟩
    have hu := h.up
    obtain ⟨F, G, s, h1, h2, h3, h4, h5, h6⟩ := h
    by_cases hs : s.call d = .idle
    · refine ⟨false, 0, 0, 7, both_const hu (sin_idle w0 W F gx (1 + k) d s h1 (by omega) hs) (fun u x => dstep_idle u G gk d s (h2.ext x) (by omega) hs)⟩
    · refine ⟨(sStep s d).2.done, (sStep s d).2.err, (sStep s d).2.num, 0, (sin_step w0 W F gx (1 + k) d s h1 (by omega) hs (by omega)).mono ?_⟩
      rintro e w1 ⟨rfl, F', i1, g1, f1⟩
      have gF : GB W w1 (· < N) := g1.more (fun i _ hi => Nat.lt_of_not_le fun e => (h6 i e).1 hi)
      refine ⟨rfl, gF, fun u xu => ?_⟩
      have du : DocAt u G gk s := (h2.gb g1 h4).ext xu
      have hv : s.ver ≤ 1000000 := by
        obtain ⟨C, gb, L, e1, e2, e3, e4, e5, e6⟩ := h1
        omega
      refine (dstep_any u G gk d s du h1.inv h3 (by omega) hs hv).mono ?_
      rintro e w2 ⟨rfl, G', d2, g2, m1, m2⟩
      have hgk := h2.2.2.2.2.1
      refine ⟨rfl, g2.more (fun i _ e => by subst e; exact Nat.lt_of_not_le fun e => (h6 _ e).2 hgk), ?_⟩
      exact sd_join h2 h6 h4 h5 g1 (i1.more (by omega)) f1 xu d2 g2 m2 (sread_step h3 h1.inv)
  · exact ⟨false, 0, 0, 1, both_const h.up (sstep_bad W _ who hw) (fun u _ => dstep_bad u _ who hw)⟩
theorem plays_start (w0 W : World) (gx gk k N : Nat) (who val : Int) (op n c1 c2 : Nat) (K1 K2 : Option Addr) (xs : List Nat) (h : PlaysX w0 gx gk k (N ≤ ·) W) (hl : xs.length = n) (hb : ∀ x ∈ xs, x < 256) (hr1 : Rd w0 K1 (vals .u8 xs)) (hr2 : Rd W K2 (vals .u8 xs)) (hK2 : ∀ a, K2 = some a → N ≤ a.block) :
    ∃ q : Nat, Both2 w0 gx gk k N 36 41 #[.pointer (some ⟨gx, 0, none⟩), .int .i64 who, .int .u8 (op : Int), .slice K2 n c2, .int .i64 val] #[.pointer (some ⟨gk, 0, none⟩), .int .i64 who, .int .u8 (op : Int), .slice K1 n c1, .int .i64 val] (.int .i64 (q : Int)) W ∧
      Both2 w0 gx gk k N 41 36 #[.pointer (some ⟨gk, 0, none⟩), .int .i64 who, .int .u8 (op : Int), .slice K1 n c1, .int .i64 val] #[.pointer (some ⟨gx, 0, none⟩), .int .i64 who, .int .u8 (op : Int), .slice K2 n c2, .int .i64 val] (.int .i64 (q : Int)) W := by
  by_cases hbad : ArgBad who op val
  · exact ⟨1, both_const h (toE_eq (sstart_arg W _ K2 who val op n c2 hbad)) (fun u _ => toE_eq (dstart_arg u _ K1 who val op n c1 hbad)), both_const h (toE_eq (dstart_arg W _ K1 who val op n c1 hbad)) (fun u _ => toE_eq (sstart_arg u _ K2 who val op n c2 hbad))⟩
  · have hw : 0 ≤ who ∧ who < 64 := Classical.byContradiction fun h => hbad (.inl h)
    have h1' : 1 ≤ op := Nat.pos_of_ne_zero fun h => hbad (.inr (.inl h))
    have h4' : op ≤ 4 := Nat.le_of_not_lt fun h => hbad (.inr (.inr (.inl h)))
    have hv : op = 2 ∨ op = 3 → 0 ≤ val ∧ val ≤ 4611686018427387903 := fun ho => Classical.byContradiction fun h => hbad (.inr (.inr (.inr ⟨ho, h⟩)))
    obtain ⟨d, rfl⟩ : ∃ d : Nat, who = (d : Int) := ⟨who.toNat, by omega⟩
    have hd : d < 64 := by omega
    by_cases hm : 256 < n
    · exact ⟨2, both_const h (toE_eq (sstart_long W _ K2 d op n c2 val hd h1' h4' hv hm)) (fun u _ => toE_eq (dstart_long u _ K1 d op n c1 val hd h1' h4' hv hm)), both_const h (toE_eq (dstart_long W _ K1 d op n c1 val hd h1' h4' hv hm)) (fun u _ => toE_eq (sstart_long u _ K2 d op n c2 val hd h1' h4' hv hm))⟩
    · have hc := h
      obtain ⟨F, G, s, h1, h2, h3, h4, h5, h6⟩ := h
      have hgk := h2.2.2.2.2.1
      by_cases hs : s.call d = .idle
      · have hi : idleS (s.call d) = true := (idleS_iff _).2 hs
        have hst : startErrS s d xs = 0 := by
          unfold startErrS
          rw [if_neg (by omega), if_neg (by rw [hi]; simp)]
        have hput : startStS s d op xs val = s.put d (.begun op xs val) := by unfold startStS; rw [if_pos hst]
        have hrd : SRead (s.put d (.begun op xs val)) := sread_put h3 trivial
        refine ⟨0, ?_, ?_⟩
        · have q := sin_start w0 W F gx (1 + k) d op xs val s K2 n c2 h1 hd h1' h4' hv hl hb hr2
          rw [hst, hput] at q
          refine q.mono ?_
          rintro e w1 ⟨rfl, F', i1, g1, f1⟩
          refine ⟨rfl, g1.more (fun i _ hi => Nat.lt_of_not_le fun e => (h6 i e).1 hi), fun u xu => ?_⟩
          refine (dstart_ok u G gk d op n c1 s K1 val xs ((h2.gb g1 h4).ext xu) hs hd h1' h4' hv (by omega) hl (hr1.ext (i1.out.trans xu))).mono ?_
          rintro e w2 ⟨rfl, G', d2, g2, m1, m2⟩
          exact ⟨rfl, g2.more (fun i _ e => by subst e; exact Nat.lt_of_not_le fun e => (h6 _ e).2 hgk), sd_join h2 h6 h4 h5 g1 i1 f1 xu d2 g2 m2 hrd⟩
        · refine (dstart_ok W G gk d op n c1 s K1 val xs h2 hs hd h1' h4' hv (by omega) hl (hr1.ext h1.out)).mono ?_
          rintro e w1 ⟨rfl, G', d1, g1, m1, m2⟩
          refine ⟨rfl, g1.more (fun i _ e => by subst e; exact Nat.lt_of_not_le fun e => (h6 _ e).2 hgk), fun u xu => ?_⟩
          have hu : ShIn w0 F gx (1 + k) s u := (h1.gb g1 (fun i hi e => h4 i hi (e ▸ hgk)) (fun i e => e ▸ h5 _ hgk)).ext xu
          have q := sin_start w0 u F gx (1 + k) d op xs val s K2 n c2 hu hd h1' h4' hv hl hb ((g1.rd hr2 (fun a ha e => (h6 _ (hK2 a ha)).2 (e ▸ hgk))).ext xu)
          rw [hst, hput] at q
          refine q.mono ?_
          rintro e w2 ⟨rfl, F', i2, g2, f2⟩
          exact ⟨rfl, g2.more (fun i _ hi => Nat.lt_of_not_le fun e => (h6 i e).1 hi), ds_join h1 h2 h6 h4 h5 g1 d1 m2 xu i2 g2 f2 hrd⟩
      · have hS : ∀ u, Ext W u → Calls Try.prog 36 #[.pointer (some ⟨gx, 0, none⟩), .int .i64 (d : Int), .int .u8 (op : Int), .slice K2 n c2, .int .i64 val] u (RetE (.int .i64 ((9 : Nat) : Int)) u) := fun u x => by
          obtain ⟨C, gb, L, e1, e2⟩ := h1
          exact toE_eq (sstart_busy u C F gx gb L s K2 d op n c2 val (e1.ext x) hs hd h1' h4' hv (by omega))
        have hD : ∀ u, Ext W u → Calls Try.prog 41 #[.pointer (some ⟨gk, 0, none⟩), .int .i64 (d : Int), .int .u8 (op : Int), .slice K1 n c1, .int .i64 val] u (RetE (.int .i64 ((9 : Nat) : Int)) u) := fun u x => toE_eq (dstart_busy u G gk d op n c1 s K1 val (h2.ext x) h1.inv hs hd h1' h4' hv (by omega))
        exact ⟨9, both_const hc (hS W (Ext.refl W)) hD, both_const hc (hD W (Ext.refl W)) hS⟩
theorem plays_pend (w0 wc : World) (gx gk k : Nat) (who : Int) {S : Nat → Prop} (h : PlaysX w0 gx gk k S wc) :
    ∃ b : Bool, ∀ u, Ext wc u → (Calls Try.prog 35 #[.pointer (some ⟨gx, 0, none⟩), .int .i64 who] u fun e w' => e = .returned (.bool b) ∧ u = w') ∧ Calls Try.prog 46 #[.pointer (some ⟨gk, 0, none⟩), .int .i64 who] u fun e w' => e = .returned (.bool b) ∧ u = w' := by
  by_cases hw : 0 ≤ who ∧ who < 64
  · obtain ⟨d, rfl⟩ : ∃ d : Nat, who = (d : Int) := ⟨who.toNat, by omega⟩
    obtain ⟨F, G, s, h1, h2, h3, h4, h5, h6⟩ := h
    exact ⟨!idleS (s.call d), fun u x => ⟨sin_pend w0 u F gx (1 + k) d s (h1.ext x) (by omega), dpend_any u G gk d s (h2.ext x) h1.inv (by omega)⟩⟩
  · exact ⟨false, fun u _ => ⟨spend_bad u _ who hw, dpend_bad u _ who hw⟩⟩
/-- the rest that is looked at -/
theorem plays_look (w0 wc : World) (gx gk k : Nat) {S : Nat → Prop} (h : PlaysX w0 gx gk k S wc) (hk : k ≤ 1000) :
    ∃ (v n lc : Nat) (LA : Option Addr) (l : List Ent) (lks : List Kref), wc.cell? ⟨gk, 0, none⟩ = some (.int .i64 (v : Int)) ∧ wc.cell? ⟨gk, 1, none⟩ = some (.slice LA n lc) ∧ l.length = n ∧ LstOk l ∧ EntRd wc LA l lks ∧
      (∀ u, Ext wc u → Calls Try.prog 38 #[.pointer (some ⟨gx, 0, none⟩)] u (RetE (.int .i64 (v : Int)) u)) ∧
      (∀ u, Ext wc u → Calls Try.prog 48 #[.pointer (some ⟨gx, 0, none⟩)] u fun e w' => ∃ A c ks, e = .returned (.slice A n c) ∧ EntRd w' A l ks ∧ Ext u w') ∧
      ∀ u, Ext wc u → Calls Try.prog 45 #[.pointer (some ⟨gx, 0, none⟩)] u fun e w' => ∃ A c ks, e = .returned (.slice A n c) ∧ EntNew w' u.heap.size A n c l ks ∧ Ext u w' := by
  obtain ⟨F, G, s, h1, h2, h3, h4, h5, h6⟩ := h
  obtain ⟨d1, d2, ⟨LA, lc, lks, d3, d4, d5, d6⟩, d7, d8, d9⟩ := h2
  refine ⟨s.ver, s.lst.length, lc, LA, s.lst, lks, d2, d3, rfl, h1.inv.1, d4, fun u x => sin_version w0 u F gx (1 + k) s (h1.ext x) (by omega), fun u x => lentries_any w0 u F gx (1 + k) s (h1.ext x), fun u x => ?_⟩
  obtain ⟨C, gb, L, e1, e2, e3, e4, e5, e6⟩ := h1
  exact sentries_any u C F gx gb L s (e1.ext x) e5.1
def Bk (w : World) (b : Nat) : Prop := ∃ cs t, w.heap[b]? = some (.cells cs t (0, 0))
theorem Bk.frz {w : World} {b : Nat} (h : Bk w b) (i : Nat) : w.frozen? ⟨b, i, none⟩ = false := by
  obtain ⟨cs, t, h⟩ := h
  exact blk_frozen h i
theorem Bk.set {w : World} {b g i : Nat} {v : Value} (h : Bk w b) : Bk (w.setCell ⟨g, i, none⟩ v) b := by
  obtain ⟨cs, t, h⟩ := h
  by_cases e : b = g
  · subst e; exact ⟨_, t, blk_set h i v⟩
  · exact ⟨cs, t, blk_off h e⟩
/-- a list that may be written over -/
def OvS (w0 : World) (gx gk k base : Nat) (A : Option Addr) (n : Nat) (w : World) : Prop := PlaysX w0 gx gk k (base ≤ ·) w ∧ ∀ j, j < n → ∃ (b : Nat) (K : Option Addr) (m kc : Nat) (v : Value), A = some ⟨b, 0, none⟩ ∧ base ≤ b ∧ Bk w b ∧ w.cell? ⟨b, j * 2, none⟩ = some (.slice K m kc) ∧ m ≤ 256 ∧ w.cell? ⟨b, j * 2 + 1, none⟩ = some v ∧
  ∀ i, i < m → ∃ (bk y : Nat), K = some ⟨bk, 0, none⟩ ∧ base ≤ bk ∧ bk ≠ b ∧ y < 256 ∧ Bk w bk ∧ w.cell? ⟨bk, i, none⟩ = some (.int .u8 (y : Int))
theorem OvS.ext {w0 w w' : World} {gx gk k base n : Nat} {A : Option Addr} (h : OvS w0 gx gk k base A n w) (x : Ext w w') : OvS w0 gx gk k base A n w' := by
  refine ⟨h.1.ext x, fun j hj => ?_⟩
  have hB : ∀ b, Bk w b → Bk w' b := fun b ⟨cs, t, e⟩ => ⟨cs, t, blk_ext e x⟩
  obtain ⟨b, K, m, kc, v, h1, h2, h3, h4, h5, h6, h7⟩ := h.2 j hj
  refine ⟨b, K, m, kc, v, h1, h2, hB b h3, ext_cell x h4, h5, ext_cell x h6, fun i hi => ?_⟩
  obtain ⟨bk, y, k1, k2, k3, k4, k5, k6⟩ := h7 i hi
  exact ⟨bk, y, k1, k2, k3, k4, hB bk k5, ext_cell x k6⟩
theorem own_bk {w : World} {base : Nat} {e : TypeId} {z : Nat} {A : Option Addr} {n c : Nat} {xs : List Value} (h : w.ownsRow base e z (.slice A n c) n xs) (hn : 0 < n) : ∃ b, A = some ⟨b, 0, none⟩ ∧ base ≤ b ∧ Bk w b := by
  rcases h.2 with ⟨h1, h2⟩ | ⟨g, cap, cur, h1, hb, hg, _⟩
  · omega
  · injection h1 with h1
    exact ⟨g, h1, hb, cur, e, hg⟩
theorem ov_new {w0 w : World} {gx gk k base n c : Nat} {A : Option Addr} {l : List Ent} {ks : List Kref} (h : PlaysX w0 gx gk k (base ≤ ·) w) (e : EntNew w base A n c l ks) (hl : LstOk l) : OvS w0 gx gk k base A n w := by
  refine ⟨h, fun j hj => ?_⟩
  obtain ⟨⟨e1, e2, e3⟩, e4⟩ := e
  obtain ⟨x, hx⟩ : ∃ x, l[j]? = some x := ⟨_, List.getElem?_eq_getElem (by omega)⟩
  obtain ⟨q, hq⟩ : ∃ q, ks[j]? = some q := ⟨_, List.getElem?_eq_getElem (by omega)⟩
  obtain ⟨g1, g2⟩ := entV_get ks l j q x hq hx
  obtain ⟨b, rfl, hb, hB⟩ := own_bk e3 (by omega)
  obtain ⟨o1, o2⟩ := e4 j q x hq hx
  have hvl : (entV ks l).length = n * 2 := by rw [entV_len _ _ e1, e2]
  refine ⟨b, q.1, x.1.length, q.2, _, rfl, hb, hB, (e3.cellAt (j * 2) (by omega)).trans g1, (hl.2.1 x (List.mem_of_getElem? hx)).1, (e3.cellAt (j * 2 + 1) (by omega)).trans g2, fun i hi => ?_⟩
  obtain ⟨bk, hbk, hbb, hBk⟩ := own_bk o1 (by omega)
  obtain ⟨y, hy⟩ : ∃ y, x.1[i]? = some y := ⟨_, List.getElem?_eq_getElem hi⟩
  refine ⟨bk, y, hbk, hbb, fun e => ?_, (hl.2.1 x (List.mem_of_getElem? hx)).2.1 y (List.mem_of_getElem? hy), hBk, ?_⟩
  · have := o2 bk (by rw [hbk]; rfl)
    exact this (by rw [← e]; rfl)
  · rw [hbk] at o1
    obtain ⟨b2, off, hb2, hc⟩ := (Rd.of_own o1) (fun e => by have := congrArg List.length e; rw [vals_len, List.length_nil] at this; omega)
    injection hb2 with hb2
    injection hb2 with hb2 hb3
    subst hb2 hb3
    have := hc i _ (vals_get hy)
    rwa [Nat.zero_add] at this
/-- a value is written over -/
theorem ov_val {w0 w : World} {gx gk k base n j b : Nat} {A : Option Addr} (h : OvS w0 gx gk k base A n w) (hA : A = some ⟨b, 0, none⟩) (hb : base ≤ b) (hb0 : w0.heap.size ≤ base) (v : Value) : OvS w0 gx gk k base A n (w.setCell ⟨b, j * 2 + 1, none⟩ v) := by
  have g := (GB.refl w (· = b)).set b (j * 2 + 1) v (.inl rfl)
  refine ⟨h.1.far g (fun i e => ⟨by omega, by omega⟩), fun j' hj' => ?_⟩
  obtain ⟨b', K, m, kc, v', h1, h2, h3, h4, h5, h6, h7⟩ := h.2 j' hj'
  have : b' = b := by rw [hA] at h1; injection h1 with h1; injection h1 with h1; exact h1.symm
  subst this
  obtain ⟨u, hu⟩ : ∃ u, (w.setCell ⟨b', j * 2 + 1, none⟩ v).cell? ⟨b', j' * 2 + 1, none⟩ = some u := cell?_setCell_some h6
  refine ⟨b', K, m, kc, u, h1, h2, h3.set, cell_off h4 (by omega), h5, hu, fun i hi => ?_⟩
  obtain ⟨bk, y, k1, k2, k3, k4, k5, k6⟩ := h7 i hi
  exact ⟨bk, y, k1, k2, k3, k4, k5.set, g.cell k6 k3⟩
/-- a byte of a key is written over -/
theorem ov_key {w0 w : World} {gx gk k base n b bk i z : Nat} {A : Option Addr} (h : OvS w0 gx gk k base A n w) (hA : A = some ⟨b, 0, none⟩) (hb : base ≤ bk) (hne : bk ≠ b) (hz : z < 256) (hb0 : w0.heap.size ≤ base) : OvS w0 gx gk k base A n (w.setCell ⟨bk, i, none⟩ (.int .u8 (z : Int))) := by
  have g := (GB.refl w (· = bk)).set bk i (.int .u8 (z : Int)) (.inl rfl)
  refine ⟨h.1.far g (fun i e => ⟨by omega, by omega⟩), fun j' hj' => ?_⟩
  obtain ⟨b', K, m, kc, v', h1, h2, h3, h4, h5, h6, h7⟩ := h.2 j' hj'
  have : b' = b := by rw [hA] at h1; injection h1 with h1; injection h1 with h1; exact h1.symm
  subst this
  refine ⟨b', K, m, kc, v', h1, h2, h3.set, g.cell h4 (fun e => hne e.symm), h5, g.cell h6 (fun e => hne e.symm), fun i' hi' => ?_⟩
  obtain ⟨bk', y, k1, k2, k3, k4, k5, k6⟩ := h7 i' hi'
  by_cases e : bk' = bk ∧ i' = i
  · obtain ⟨rfl, rfl⟩ := e
    exact ⟨bk', z, k1, k2, k3, hz, k5.set, World.cell?_setCell_same _ _ _ k6⟩
  · refine ⟨bk', y, k1, k2, k3, k4, k5.set, (World.cell?_setCell_other _ _ _ _ (fun e9 => e ?_)).trans k6⟩
    injection e9 with e1 e2
    exact ⟨by first | exact e1 | exact e1.symm, by first | exact e2 | exact e2.symm⟩
end Go.Proofs.Ytlgggeeflomelaa
