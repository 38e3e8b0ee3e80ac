/- shard: Step whole; from outside. -/
import Derived.Test.YtlgggeeflomelaaShI
namespace Go.Proofs.Ytlgggeeflomelaa
open Go.RowKit

theorem begOut_step {s : SSt} {who op : Nat} {key : List Nat} {val : Int} (h : s.call who = .begun op key val) : sStep s who = (s.put who (begOut op key val s).1, (begOut op key val s).2) := by
  unfold sStep begOut
  rw [h]
  dsimp only
  split
  · split <;> rfl
  · split <;> rfl
theorem func_caps {f : FuncId} {a b : Array Value} (h : Value.func (.func f) #[] a = Value.func (.func f) #[] b) : a = b := by
  injection h
theorem PendS.ext {w w' : World} {C F : Nat → Prop} {gx who : Nat} {v : Value} {c : SCall} (h : PendS w C F gx who v c) (x : Ext w w') (hlt : ∀ i, F i → i < w.heap.size) : PendS w' C F gx who v c := h.gb (GB.of_ext (fun _ => False) x) (fun _ e => e.elim) (fun _ _ e => .inl e) (fun _ e => e) hlt
set_option maxHeartbeats 1000000 in
set_option maxRecDepth 100000 in
theorem sstep_any (w : World) (C F : Nat → Prop) (gx gb who : Nat) (L : List AccE) (s : SSt) (h : ShAt w C F gx gb L s) (hi : SInv s) (hL : L.length ≤ 100000) (hv : s.ver ≤ 1000000) (hw : who < 64) (hs : s.call who ≠ .idle) :
    Calls Try.prog 37 #[.pointer (some ⟨gx, 0, none⟩), .int .i64 (who : Int)] w (StepS w C F gx gb (L.length + 1) (sStep s who).1 (.tuple #[.agg #[.bool (sStep s who).2.done, .int .i64 ((sStep s who).2.err : Int), .int .i64 (sStep s who).2.num], .int .i64 0])) := by
  obtain ⟨f, xf, zf, hC, pv, hput⟩ := h.pend hw
  have hc := hi.2.2 who
  cases he : s.call who with
  | idle => exact absurd he hs
  | begun op key val =>
    rw [he] at pv hc
    have pv0 := pv
    obtain ⟨p0, p1, rfl, k0, k1⟩ := pv
    rw [begOut_step he]
    refine sstep_run w C F gx gb who (L.length + 1) L s s (begOut op key val s).1 _ _ (begOut op key val s).2.done ((begOut op key val s).2.err : Int) (begOut op key val s).2.num h hw hs xf (fun _ => rfl) (fun u x => ?_)
    have k0' : BoxAt u C F p0 (.pointer (some ⟨gx, 0, none⟩)) := k0.gb (GB.of_ext (fun _ => False) x) (fun _ e => e.elim) (fun _ _ e => .inl e) (fun _ e => e)
    have k1' : CallBox u C F p1 who op key val := k1.gb (GB.of_ext (fun _ => False) x) (fun _ e => e.elim) (fun _ _ e => .inl e) (fun _ e => e) h.lt
    exact sbeg_any u C F gx gb who op key val L s p0 p1 (h.ext x) hi.1 hL hw k0' k1' hc
  | swap op key val v m n =>
    rw [he] at pv hc
    obtain ⟨hc1, hc2, hc3, hc4, hc5, hc6⟩ := hc
    by_cases hvv : s.ver = v
    · subst hvv
      have e9 : sStep s who = ({ s with ver := s.ver + 1, lst := m }.put who .idle, ⟨true, 0, n⟩) := by
        unfold sStep
        rw [he]
        dsimp only
        rw [if_pos rfl]
        rfl
      rw [e9]
      obtain ⟨p0, p1, p2, p3, p4, rfl, -⟩ := sswap_hit w C F gx gb who op key val m n L s f h hL hw hv pv
      refine sstep_run w C F gx gb who (L.length + 1) L s { s with ver := s.ver + 1, lst := m } .idle _ _ true 0 n h hw hs xf (fun _ => rfl) (fun u x => ?_)
      obtain ⟨q0, q1, q2, q3, q4, e, hq⟩ := sswap_hit u C F gx gb who op key val m n L s _ (h.ext x) hL hw hv (pv.ext x h.lt)
      rw [func_caps e]
      exact hq
    · have e9 : sStep s who = (s.put who (.begun op key val), ⟨false, 0, 0⟩) := by
        unfold sStep
        rw [he]
        dsimp only
        rw [if_neg hvv]
      rw [e9]
      obtain ⟨p0, p1, p2, p3, p4, rfl, -⟩ := sswap_miss w C F gx gb who op key val v m n L s f h hL hw hv pv hvv hc4
      refine sstep_run w C F gx gb who (L.length + 1) L s s (.begun op key val) _ _ false 0 0 h hw hs xf (fun _ => rfl) (fun u x => ?_)
      obtain ⟨q0, q1, q2, q3, q4, e, hq⟩ := sswap_miss u C F gx gb who op key val v m n L s _ (h.ext x) hL hw hv (pv.ext x h.lt) hvv hc4
      rw [func_caps e]
      exact hq
/-- a shard that this call made, behind at most k accesses; F: all its blocks -/
def ShIn (w0 : World) (F : Nat → Prop) (gx k : Nat) (s : SSt) (w : World) : Prop :=
  ∃ C gb L, ShAt w C F gx gb L s ∧ L.length ≤ k ∧ Ext w0 w ∧ (∀ i, F i → w0.heap.size ≤ i) ∧ SInv s ∧ s.ver ≤ k
theorem ShIn.ext {w0 w w' : World} {F : Nat → Prop} {gx k : Nat} {s : SSt} (h : ShIn w0 F gx k s w) (x : Ext w w') : ShIn w0 F gx k s w' := by
  obtain ⟨C, gb, L, h1, h2, h3, h4⟩ := h
  exact ⟨C, gb, L, h1.ext x, h2, h3.trans x, h4⟩
theorem ShIn.gb {w0 w w' : World} {F S : Nat → Prop} {gx k : Nat} {s : SSt} (h : ShIn w0 F gx k s w) (g : GB w w' S) (hs : ∀ i, F i → ¬ S i) (hn : ∀ i, S i → w0.heap.size ≤ i) : ShIn w0 F gx k s w' := by
  obtain ⟨C, gb, L, h1, h2, h3, h4⟩ := h
  exact ⟨C, gb, L, h1.gb g hs, h2, g.to_ext h3 hn, h4⟩
theorem ShIn.out {w0 w : World} {F : Nat → Prop} {gx k : Nat} {s : SSt} (h : ShIn w0 F gx k s w) : Ext w0 w := by
  obtain ⟨C, gb, L, h1, h2, h3, h4⟩ := h
  exact h3
theorem ShIn.lt {w0 w : World} {F : Nat → Prop} {gx k : Nat} {s : SSt} (h : ShIn w0 F gx k s w) : ∀ i, F i → i < w.heap.size := by
  obtain ⟨C, gb, L, h1, _⟩ := h
  exact h1.lt
theorem ShIn.ge {w0 w : World} {F : Nat → Prop} {gx k : Nat} {s : SSt} (h : ShIn w0 F gx k s w) : ∀ i, F i → w0.heap.size ≤ i := by
  obtain ⟨C, gb, L, h1, h2, h3, h4, _⟩ := h
  exact h4
theorem ShIn.more {w0 w : World} {F : Nat → Prop} {gx k k' : Nat} {s : SSt} (h : ShIn w0 F gx k s w) (hk : k ≤ k') : ShIn w0 F gx k' s w := by
  obtain ⟨C, gb, L, h1, h2, h3, h4, h5, h6⟩ := h
  exact ⟨C, gb, L, h1, by omega, h3, h4, h5, by omega⟩
theorem ShIn.inv {w0 w : World} {F : Nat → Prop} {gx k : Nat} {s : SSt} (h : ShIn w0 F gx k s w) : SInv s := by
  obtain ⟨C, gb, L, h1, h2, h3, h4, h5, h6⟩ := h
  exact h5
/-- it went on; what is in no block of its own is as it was -/
def SinGo (w0 w : World) (F : Nat → Prop) (gx k : Nat) (s : SSt) (w' : World) : Prop :=
  ∃ F', ShIn w0 F' gx k s w' ∧ GB w w' F ∧ ∀ i, F' i → F i ∨ w.heap.size ≤ i
theorem SinGo.refl {w0 w : World} {F : Nat → Prop} {gx k : Nat} {s : SSt} (h : ShIn w0 F gx k s w) : SinGo w0 w F gx k s w := ⟨F, h, GB.refl w F, fun _ h => .inl h⟩
theorem sin_new (w0 w : World) (x : Ext w0 w) : Calls Try.prog 33 #[] w fun e w' => ∃ gx F, e = .returned (.pointer (some ⟨gx, 0, none⟩)) ∧ ShIn w0 F gx 1 sInit w' ∧ Ext w w' ∧ ∀ i, F i → w.heap.size ≤ i := by
  refine (snew_any w).mono ?_
  rintro e w' ⟨gx, gb, C, F, L, rfl, h3, h4, h5, h6⟩
  exact ⟨gx, F, rfl, ⟨C, gb, L, h3, h5, x.trans h4, fun i hi => Nat.le_trans x.size (h6 i hi), sinv_new, Nat.le_refl _⟩, h4, h6⟩
theorem sver_step (s : SSt) (who : Nat) : (sStep s who).1.ver ≤ s.ver + 1 := by
  unfold sStep
  split
  · exact Nat.le_succ _
  · split
    · split <;> exact Nat.le_succ _
    · split <;> exact Nat.le_succ _
  · split
    · next h => show _ + 1 ≤ s.ver + 1; omega
    · exact Nat.le_succ _
theorem sin_step (w0 w : World) (F : Nat → Prop) (gx k who : Nat) (s : SSt) (h : ShIn w0 F gx k s w) (hw : who < 64) (hs : s.call who ≠ .idle) (hk : k ≤ 100000) :
    Calls Try.prog 37 #[.pointer (some ⟨gx, 0, none⟩), .int .i64 (who : Int)] w fun e w' => e = .returned (.tuple #[.agg #[.bool (sStep s who).2.done, .int .i64 ((sStep s who).2.err : Int), .int .i64 (sStep s who).2.num], .int .i64 0]) ∧ SinGo w0 w F gx (k + 1) (sStep s who).1 w' := by
  obtain ⟨C, gb, L, e1, e2, e3, e4, e5, e6⟩ := h
  refine (sstep_any w C F gx gb who L s e1 e5 (by omega) (by omega) hw hs).mono ?_
  rintro e w' ⟨L', C', F', hl, rfl, g1, g2, g3, g4, g5⟩
  have := sver_step s who
  exact ⟨rfl, F', ⟨C', gb, L', g1, by omega, g2.to_ext e3 (fun i hi => e4 i (e1.sub i hi)), fun i hi => (g5 i hi).elim (e4 i) (fun h => Nat.le_trans e3.size h), sinv_step e5, by omega⟩, g2.more (fun i _ hi => e1.sub i hi), g5⟩
theorem sin_idle (w0 w : World) (F : Nat → Prop) (gx k who : Nat) (s : SSt) (h : ShIn w0 F gx k s w) (hw : who < 64) (hs : s.call who = .idle) :
    Calls Try.prog 37 #[.pointer (some ⟨gx, 0, none⟩), .int .i64 (who : Int)] w (RetE (.tuple #[.agg #[.bool false, .int .i64 0, .int .i64 0], .int .i64 7]) w) := by
  obtain ⟨C, gb, L, e1, _⟩ := h
  refine sstep_idle w who _ hw (fun u x => ?_)
  have := spend_any u C F gx gb who L s (e1.ext x) hw
  rw [hs] at this
  exact this
theorem sin_pend (w0 w : World) (F : Nat → Prop) (gx k who : Nat) (s : SSt) (h : ShIn w0 F gx k s w) (hw : who < 64) :
    Calls Try.prog 35 #[.pointer (some ⟨gx, 0, none⟩), .int .i64 (who : Int)] w fun e w' => e = .returned (.bool (!idleS (s.call who))) ∧ w = w' := by
  obtain ⟨C, gb, L, e1, _⟩ := h
  exact spend_any w C F gx gb who L s e1 hw
theorem sin_version (w0 w : World) (F : Nat → Prop) (gx k : Nat) (s : SSt) (h : ShIn w0 F gx k s w) (hk : k ≤ 100000) :
    Calls Try.prog 38 #[.pointer (some ⟨gx, 0, none⟩)] w (RetE (.int .i64 (s.ver : Int)) w) := by
  obtain ⟨C, gb, L, e1, e2, e3, e4, e5, e6⟩ := h
  exact sversion_any w C F gx gb L s e1 (by omega)
/-- a call that has begun, or was refused -/
def startErrS (s : SSt) (who : Nat) (key : List Nat) : Nat := if 256 < key.length then 2 else if idleS (s.call who) = false then 9 else 0
def startStS (s : SSt) (who op : Nat) (key : List Nat) (val : Int) : SSt := if startErrS s who key = 0 then s.put who (.begun op key val) else s
theorem sin_start (w0 w : World) (F : Nat → Prop) (gx k who op : Nat) (key : List Nat) (val : Int) (s : SSt) (K : Option Addr) (m d : Nat) (h : ShIn w0 F gx k s w) (hw : who < 64) (h1 : 1 ≤ op) (h4 : op ≤ 4) (hv : op = 2 ∨ op = 3 → 0 ≤ val ∧ val ≤ 4611686018427387903) (hkl : key.length = m) (hkb : ∀ x ∈ key, x < 256) (hr : Rd w K (vals .u8 key)) :
    Calls Try.prog 36 #[.pointer (some ⟨gx, 0, none⟩), .int .i64 (who : Int), .int .u8 (op : Int), .slice K m d, .int .i64 val] w fun e w' => e = .returned (.int .i64 (startErrS s who key : Int)) ∧ SinGo w0 w F gx k (startStS s who op key val) w' := by
  have hin := h
  obtain ⟨C, gb, L, e1, e2, e3, e4, e5, e6⟩ := h
  unfold startStS startErrS
  subst hkl
  by_cases hm : 256 < key.length
  · rw [if_pos hm, if_neg (by omega)]
    refine (sstart_long w _ K who op key.length d val hw h1 h4 hv hm).mono ?_
    rintro e w' ⟨rfl, rfl⟩
    exact ⟨rfl, SinGo.refl hin⟩
  · rw [if_neg hm]
    by_cases hb : s.call who = .idle
    · have hi : ¬ idleS (s.call who) = false := by rw [hb]; decide
      rw [if_neg hi, if_pos rfl]
      have fin : ∀ (e : Ending) (w' : World), e = .returned (.int .i64 0) ∧ ShGo w C F gx gb L (s.put who (.begun op key val)) w' → e = .returned (.int .i64 ((0 : Nat) : Int)) ∧ SinGo w0 w F gx k (s.put who (.begun op key val)) w' := by
        rintro e w' ⟨rfl, C', F', g1, g2, g3, g4, g5⟩
        refine ⟨rfl, F', ⟨C', gb, L, g1, e2, g2.to_ext e3 (fun i hi => e4 i (e1.sub i hi)), fun i hi => (g5 i hi).elim (e4 i) (fun h => Nat.le_trans e3.size h), sinv_put e5 (⟨h1, h4, by omega, hkb, hv⟩ : AskOk op key val), e6⟩, g2.more (fun i _ hi => e1.sub i hi), g5⟩
      rcases (by omega : op = 1 ∨ op = 2 ∨ op = 3 ∨ op = 4) with rfl | rfl | rfl | rfl
      · exact (sstart_op1 w C F gx gb L s K who key.length d val key e1 hb hw (by omega) rfl hr).mono fin
      · exact (sstart_op2 w C F gx gb L s K who key.length d val key e1 hb hw (hv (by decide)) (by omega) rfl hr).mono fin
      · exact (sstart_op3 w C F gx gb L s K who key.length d val key e1 hb hw (hv (by decide)) (by omega) rfl hr).mono fin
      · exact (sstart_op4 w C F gx gb L s K who key.length d val key e1 hb hw (by omega) rfl hr).mono fin
    · have hi : idleS (s.call who) = false := by
        cases hq : idleS (s.call who) with
        | false => rfl
        | true => exact absurd ((idleS_iff _).1 hq) hb
      rw [if_pos hi, if_neg (by omega)]
      refine (sstart_busy w C F gx gb L s K who op key.length d val e1 hb hw h1 h4 hv (by omega)).mono ?_
      rintro e w' ⟨rfl, rfl⟩
      exact ⟨rfl, SinGo.refl hin⟩
end Go.Proofs.Ytlgggeeflomelaa
