/- Laid together: what 'TopGivenBack' needs, part 12 of 12. -/
import Derived.OwnWalk
import Derived.BigQuiet
import Derived.Test.YtloidkmphigbdaaGreatBTopGivenBack1
import Derived.Test.YtloidkmphigbdaaGreatBTopGivenBack3
import Derived.Test.YtloidkmphigbdaaGreatBTopGivenBack6
import Derived.Test.YtloidkmphigbdaaGreatBTopGivenBack7
import Derived.Test.YtloidkmphigbdaaGreatBTopGivenBack8
import Derived.Test.YtloidkmphigbdaaGreatBTopGivenBack10
import Derived.Test.YtloidkmphigbdaaGreatBTopGivenBack11
namespace Go.Proofs.YtloidkmphigbdaaGreat
set_option linter.all false

section
open Go.RowKit

/-- a daemon from outside: all that it may write lies behind base and is none of F -/
def DaeIn (w : World) (base gd : Nat) (g : CoK) (N : Nat) (a : DSt) (F : Nat → Prop) : Prop :=
  base ≤ w.heap.size ∧ (∀ i, F i → i < w.heap.size) ∧ ∃ C xb L D, DaeAt w gd g C xb L a.ks a.dr a.ls D ∧ L.length ≤ N ∧ ∀ i, DSet gd C D i → base ≤ i ∧ ¬ F i
/-- what was written by it -/
abbrev DWr (base : Nat) (F : Nat → Prop) : Nat → Prop := fun i => base ≤ i ∧ ¬ F i
theorem DaeIn.ext {w w' : World} {base gd : Nat} {g : CoK} {N : Nat} {a : DSt} {F : Nat → Prop} (h : DaeIn w base gd g N a F) (x : Ext w w') : DaeIn w' base gd g N a F := by
  obtain ⟨h1, h2, C, xb, L, D, h3, h4, h5⟩ := h
  exact ⟨Nat.le_trans h1 x.size, fun i hi => Nat.lt_of_lt_of_le (h2 i hi) x.size, C, xb, L, D, h3.ext x, h4, h5⟩
/-- somebody else's blocks came -/
theorem DaeIn.more {w w' : World} {base gd : Nat} {g : CoK} {N : Nat} {a : DSt} {F F' : Nat → Prop} (h : DaeIn w base gd g N a F) (x : Ext w w') (hF : ∀ i, F' i → F i ∨ (w.heap.size ≤ i ∧ i < w'.heap.size)) : DaeIn w' base gd g N a F' := by
  obtain ⟨h1, h2, C, xb, L, D, h3, h4, h5⟩ := h
  refine ⟨Nat.le_trans h1 x.size, fun i hi => ?_, C, xb, L, D, h3.ext x, h4, fun i hi => ⟨(h5 i hi).1, fun e => ?_⟩⟩
  · rcases hF i hi with e | e
    · exact Nat.lt_of_lt_of_le (h2 i e) x.size
    · exact e.2
  · rcases hF i e with e | e
    · exact (h5 i hi).2 e
    · have := h3.lt i hi; omega
theorem DaeIn.go {w w' : World} {base gd : Nat} {g : CoK} {N N' : Nat} {b : DSt} {F : Nat → Prop} {C : Nat → Prop} {D : Nat → Nat → Prop} (h1 : base ≤ w.heap.size) (h2 : ∀ i, F i → i < w.heap.size) (h5 : ∀ i, DSet gd C D i → base ≤ i ∧ ¬ F i) (hN : N ≤ N') (h : DaeGo w gd g C D N b.ks b.dr b.ls w') : DaeIn w' base gd g N' b F ∧ GB w w' (DWr base F) := by
  obtain ⟨C', xb', L', D', k1, k2, k3, k4⟩ := h
  refine ⟨⟨Nat.le_trans h1 k3.size, fun i hi => Nat.lt_of_lt_of_le (h2 i hi) k3.size, C', xb', L', D', k2, Nat.le_trans k1 hN, fun i hi => ?_⟩, k3.more (fun i _ e => h5 i e)⟩
  rcases k4 i hi with e | e
  · exact h5 i e
  · exact ⟨Nat.le_trans h1 e, fun e9 => by have := h2 i e9; omega⟩
theorem DaeIn.do_ {base gd : Nat} {g : CoK} {N kind n err : Nat} {X : Int} {a b : DSt} {F : Nat → Prop} {w : World} (h : DaeIn w base gd g N a F) (hN : N ≤ 100000) (d : DoTo g kind n X err a b) :
    Calls Tryz.prog 19 #[ptrV gd, .agg #[.int .u8 (kind : Int), .int .i64 (n : Int), .slice none 0 0, .int .i64 X]] w fun e w' => e = .returned (.int .i64 (err : Int)) ∧ DaeIn w' base gd g (N + 1) b F ∧ GB w w' (DWr base F) := by
  obtain ⟨h1, h2, C, xb, L, D, h3, h4, h5⟩ := h
  refine (d w gd C xb L D h3 (by omega)).mono ?_
  rintro e w' ⟨he, hg⟩
  obtain ⟨k1, k2⟩ := DaeIn.go h1 h2 h5 (by omega : L.length + 1 ≤ N + 1) hg
  exact ⟨he, k1, k2⟩
theorem DaeIn.feed_ {base gd : Nat} {g : CoK} {N n m c : Nat} {A : Option Addr} {xs : List Nat} {a b : DSt} {F : Nat → Prop} {w : World} (h : DaeIn w base gd g N a F) (d : FeedTo g n xs a b) (hm : xs.length = m) (hr : Rd w A (vals .u8 xs)) :
    Calls Tryz.prog 19 #[ptrV gd, .agg #[.int .u8 2, .int .i64 (n : Int), .slice A m c, .int .i64 0]] w fun e w' => e = .returned (.int .i64 0) ∧ DaeIn w' base gd g N b F ∧ GB w w' (DWr base F) := by
  obtain ⟨h1, h2, C, xb, L, D, h3, h4, h5⟩ := h
  refine (d w gd C xb L D A m c h3 hm hr).mono ?_
  rintro e w' ⟨he, hg⟩
  obtain ⟨k1, k2⟩ := DaeIn.go h1 h2 h5 h4 hg
  exact ⟨he, k1, k2⟩
theorem DaeIn.state_ {base gd : Nat} {g : CoK} {N n : Nat} {a : DSt} {F : Nat → Prop} {w : World} (h : DaeIn w base gd g N a F) (hn : n < 63) :
    Calls Tryz.prog 23 #[ptrV gd, .int .i64 (n : Int)] w fun e w' => e = .returned (.int .i64 ((a.ls n).st : Int)) ∧ w = w' := by
  obtain ⟨h1, h2, C, xb, L, D, h3, h4, h5⟩ := h
  exact dstate_any w gd g C xb L a.ks a.dr a.ls D n h3 hn
theorem DaeIn.out_ {base gd : Nat} {g : CoK} {N n m : Nat} {a : DSt} {F : Nat → Prop} {w : World} (h : DaeIn w base gd g N a F) (hn : n < 63) (hm : (a.ls n).wr.length = m) (hm2 : m ≤ 1000000) :
    Calls Tryz.prog 25 #[ptrV gd, .int .i64 (n : Int)] w fun e w' => ∃ A c, e = .returned (.slice A m c) ∧ w'.ownsRow w.heap.size 5 1 (.slice A m c) m (vals .u8 (a.ls n).wr) ∧ Ext w w' := by
  obtain ⟨h1, h2, C, xb, L, D, h3, h4, h5⟩ := h
  exact dout_any w gd g C xb L a.ks a.dr a.ls D n m h3 hn hm hm2
theorem DaeIn.ledger_ {base gd : Nat} {g : CoK} {N n : Nat} {a : DSt} {F : Nat → Prop} {w : World} {s : CSt} (h : DaeIn w base gd g N a F) (hn : n < 63) (hst : (a.ls n).st ≠ 0) (hs : (a.ls n).cn = some s) (hl : s.led.length ≤ 100000) (hkl : ∀ t ∈ s.led, t.key.length ≤ 5000) :
    Calls Tryz.prog 31 #[ptrV gd, .int .i64 (n : Int)] w (LedR s.led w) := by
  obtain ⟨h1, h2, C, xb, L, D, h3, h4, h5⟩ := h
  exact dledger_any w gd g C xb L a.ks a.dr a.ls D n s h3 hn hst hs hl hkl
theorem DaeIn.cells_ {base gd : Nat} {g : CoK} {N : Nat} {a : DSt} {F : Nat → Prop} {w : World} (h : DaeIn w base gd g N a F) (hu : a.ks.ws.getD 0 0 = 0) (l : List PCell) (hl : a.ks.hs.getD 1 [] = l) (hl1 : l.length ≤ 1) (hkl : ∀ e ∈ l, e.key.length ≤ 5000 ∧ e.held.length ≤ 5000) :
    Calls Tryz.prog 29 #[ptrV gd] w (CopyR l w) := by
  obtain ⟨h1, h2, C, xb, L, D, h3, h4, h5⟩ := h
  obtain ⟨hco, c0, -⟩ := h3.core
  have CE := Lib.hid (kcells_few w g _ C xb L a.ks hco hu l hl hl1 hkl)
  clear hco h3 hl hkl hu
  go_enter Tryz.func29, Tryz.ntmps29
  go_wp2_with fail
  refine CE.out.mono ?_
  rintro e w1 ⟨A, c, rs, rfl, hN, hx⟩
  have HN := Lib.hid hN; have HX := Lib.hid hx
  clear hN hx
  go_wp2_with fail
  go_ret
  exact ⟨A, c, rs, rfl, HN.out, HX.out⟩
/-- steps of a connection until it is enough -/
inductive DRun (g : CoK) (n : Nat) (stop : DSt → Bool) : Nat → DSt → DSt → Prop
  | done {a : DSt} : stop a = true → DRun g n stop 0 a a
  | step {k : Nat} {a b c : DSt} : stop a = false → DoTo g 3 n 0 0 a b → DRun g n stop k b c → DRun g n stop (k + 1) a c
end

section
open Go.RowKit

set_option maxHeartbeats 2000000 in
set_option maxRecDepth 100000 in
theorem crequest_any (op : Nat) (hop : op < 256) (p N : Int) (n : Nat) (xs : List Nat) (hl : xs.length = n) (hb : ∀ x ∈ xs, x < 256) :
    ∃ F, FrOf op p xs N F ∧ (∀ L, F = some L → L.length ≤ 1010 ∧ ∀ x ∈ L, x < 256) ∧ ∀ A c w, Rd w A (vals .u8 xs) → Calls Tryz.prog 20 #[callV (op : Int) p A n c N] w (RetFr F w) := by
  obtain ⟨q, L, hq, hc, -⟩ := req_cases op hop p N n xs hl hb
  rcases hq with ⟨hq0, rfl, hno⟩ | ⟨rfl, P, M, h1, h2, h3, rfl⟩
  · have hq' : (q != 0) = true := by simp [bne, hq0]
    refine ⟨none, .inl ⟨rfl, fun P M e1 e2 e3 => hno ⟨P, M, e1, e2, e3⟩⟩, (fun L e => by cases e), fun A c w hr => ?_⟩
    have C := Lib.hid (hc A c _ (hr.ext ((Ext.refl w).alloc (.cells #[.int .u8 (op : Int), .int .i64 p, .slice A n c, .int .i64 N] 34))))
    clear hc hno hb hl hr hq0
    go_enter Tryz.func20, Tryz.ntmps20
    go_wp2_with fail
    refine C.out.mono ?_
    rintro e w1 ⟨A1, c1, rfl, o1, x1⟩
    clear o1
    go_wp2_with fail
    go_ret
    exact ⟨rfl, ((Ext.refl w).alloc _).trans x1⟩
  · have hx : xs.length ≤ 255 ∨ 5 ≤ op := by have := h3.2.2.1; omega
    have hlen : (reqB op P xs M).length ≤ 1000 := by
      rcases hx with hx | hx
      · exact reqB_len' hx
      · rw [reqB_56 (by have := h3.2.1; omega)]; simp
    have hpos := reqB_pos' op P M xs
    have hlt := reqB_lt h3 hb
    obtain ⟨R, HR⟩ : ∃ R, Hid (reqB op P xs M = R) := ⟨_, rfl⟩
    rw [HR.out] at hc hlen hpos hlt
    obtain ⟨m, Hm⟩ : ∃ m, Hid (R.length = m) := ⟨_, rfl⟩
    rw [Hm.out] at hlen hpos
    refine ⟨some (len4 m ++ R), .inr ⟨P, M, h1, h2, h3, by rw [HR.out, Hm.out]⟩, fun L e => ?_, fun A c w hr => ?_⟩
    · injection e with e
      subst e
      refine ⟨by rw [List.length_append, Hm.out]; simp [len4]; omega, fun x hx => ?_⟩
      rcases List.mem_append.1 hx with hx | hx
      · simp [len4] at hx
        omega
      · exact hlt x hx
    · have C := Lib.hid (hc A c _ (hr.ext ((Ext.refl w).alloc (.cells #[.int .u8 (op : Int), .int .i64 p, .slice A n c, .int .i64 N] 34))))
      clear hc h1 h2 h3 hr hb hl hlt hx
      go_enter Tryz.func20, Tryz.ntmps20
      go_wp2_with fail
      refine C.out.mono ?_
      rintro e w1 ⟨A1, c1, rfl, o1, x1⟩
      rw [Hm.out] at o1 ⊢
      have O1 := Lib.hid o1
      have X1 := Lib.hid (((Ext.refl w).alloc (.cells #[.int .u8 (op : Int), .int .i64 p, .slice A n c, .int .i64 N] 34)).trans x1)
      clear o1 x1
      go_wp2_with fail
      refine (frEncode_ok w1 A1 m c1 R (by omega) hpos Hm.out (Rd.of_own O1.out)).mono ?_
      rintro e w2 ⟨A2, c2, rfl, o2, x2⟩
      have O2 := Lib.hid o2; have X2 := Lib.hid (X1.out.trans x2)
      obtain ⟨g, rfl, -, -⟩ := own_some_s o2 (by have := own_cap o2; rw [List.length_append] at this; simp [len4] at this; omega)
      obtain ⟨fn, Hfn⟩ : ∃ fn, Hid ((len4 m ++ R).length = fn) := ⟨_, rfl⟩
      rw [Hfn.out]
      clear o2 x2
      go_wp2_with fail
      go_ret
      exact ⟨g, c2, by rw [Hfn.out]; rfl, own_base O2.out X1.out.size, X2.out⟩

/-- request of a right call -/
theorem crequest_norm (c : CCall) (h : NormC c.op c.pol c.key c.num) (n : Nat) (hl : c.key.length = n) (A : Option Addr) (cp : Nat) (w : World) (hr : Rd w A (vals .u8 c.key)) :
    Calls Tryz.prog 20 #[callV (c.op : Int) (c.pol : Int) A n cp (c.num : Int)] w (RetFr (some (frameOf c)) w) := by
  obtain ⟨op, p, xs, N⟩ := c
  unfold frameOf
  dsimp only at h hl hr ⊢
  obtain ⟨hR, hb, hz, hn⟩ := h
  obtain ⟨F, hF, -, hC⟩ := crequest_any op (by have := hR.2.1; omega) (p : Int) (N : Int) n xs hl hb
  have hFe : F = some (len4 (reqB op p xs N).length ++ reqB op p xs N) := by
    rcases hF with ⟨_, h⟩ | ⟨P', M, h1, h2, h3, h4⟩
    · exact absurd hR (h p N (fun _ => rfl) (fun _ => rfl))
    · have : reqB op P' xs M = reqB op p xs N := by
        by_cases h5 : 5 ≤ op
        · rw [reqB_56 (by have := hR.2.1; omega), reqB_56 (by have := hR.2.1; omega)]
        · have e1 : P' = p := by have := h1 (by omega); omega
          subst e1
          by_cases h13 : op = 1 ∨ op = 3
          · have e2 : M = N := by have := h2 h13; omega
            rw [e2]
          · have h24 : op = 2 ∨ op = 4 := by have := hR.1; omega
            rcases h24 with rfl | rfl
            · rw [reqB_2, reqB_2]
            · rw [reqB_4, reqB_4]
      rw [h4, this]
  rw [hFe] at hC
  exact hC A cp w hr
end

section
open Go.RowKit

def grewB (n m : Nat) (s : DSt) : Bool := decide ((s.ls n).wr.length ≠ m)
/-- a request is sent and served, so many times -/
inductive SendsTo (g : CoK) (n : Nat) (c : CCall) : Nat → DSt → DSt → Prop
  | nil {a : DSt} : SendsTo g n c 0 a a
  | cons {k q m : Nat} {a a1 b d : DSt} : FeedTo g n (frameOf c) a a1 → (a1.ls n).wr.length = m → m ≤ 100000 → DRun g n (grewB n m) q a1 b → q ≤ 500 → (b.ls n).wr.length ≤ 100000 → SendsTo g n c k b d → SendsTo g n c (k + 1) a d
set_option maxRecDepth 100000 in
set_option maxHeartbeats 1000000 in
theorem sends_ok (w : World) (base gd : Nat) (g : CoK) (N : Nat) (F : Nat → Prop) (n times : Nat) (c : CCall) (a b : DSt) (K : Option Addr) (kl kc : Nat) (h : DaeIn w base gd g N a F) (hN : N + 600 * times ≤ 90000) (hn : n < 63) (ht : times ≤ 1000) (S : SendsTo g n c times a b) (hc : NormC c.op c.pol c.key c.num) (hkl : c.key.length = kl) (hr : Rd w K (vals .u8 c.key)) (hK : ∀ p, K = some p → F p.block ∨ p.block < base) :
    Calls Tryz.prog 30 #[ptrV gd, .int .i64 (n : Int), .int .i64 (times : Int), .agg #[.int .u8 (c.op : Int), .int .i64 (c.pol : Int), .slice K kl kc, .int .i64 (c.num : Int)]] w fun e w' => e = .returned (.bool true) ∧ DaeIn w' base gd g (N + 600 * times) b F ∧ GB w w' (DWr base F) := by
  obtain ⟨W, hW⟩ : ∃ W, (w.alloc (.cells #[.int .u8 (c.op : Int), .int .i64 (c.pol : Int), .slice K kl kc, .int .i64 (c.num : Int)] 34)) = W := ⟨_, rfl⟩
  have xW : Ext w W := by rw [← hW]; exact (Ext.refl w).alloc _
  have KB := Lib.hid (show W.heap[w.heap.size]? = some (.cells #[.int .u8 (c.op : Int), .int .i64 (c.pol : Int), .slice K kl kc, .int .i64 (c.num : Int)] 34 (0, 0)) by rw [← hW]; exact blk_new w _)
  obtain ⟨F1, HF1⟩ : ∃ F1 : Nat → Prop, Hid (F1 = fun i => F i ∨ i = w.heap.size) := ⟨_, Lib.hid rfl⟩
  have h1 : DaeIn W base gd g N a F1 := h.more xW (fun i hi => by
    rw [HF1.out] at hi
    rcases hi with e | e
    · exact .inl e
    · have := blk_lt KB.out; exact .inr ⟨by omega, by omega⟩)
  have NB := Lib.hid (show ¬ DWr base F1 w.heap.size from fun e => e.2 (by rw [HF1.out]; exact .inr rfl))
  have NK := Lib.hid (show ∀ p, K = some p → ¬ DWr base F1 p.block from fun p hp e => by
    rcases hK p hp with e9 | e9
    · exact e.2 (by rw [HF1.out]; exact .inl e9)
    · have := e.1; omega)
  have H1 := Lib.hid h1; have HR := Lib.hid (hr.ext xW); have HKL := Lib.hid hkl; have XW := Lib.hid xW; have HS := Lib.hid S; have HC := Lib.hid hc
  obtain ⟨FL, HFL⟩ : ∃ FL, Hid (frameOf c = FL) := ⟨_, rfl⟩
  obtain ⟨fn, Hfn⟩ : ∃ fn, Hid (FL.length = fn) := ⟨_, rfl⟩
  have hnm := Lib.hid (norm_len' hc)
  clear h h1 hr hkl xW S hK hc
  go_enter Tryz.func30, Tryz.ntmps30
  go_upto_region 1 with fail
  (try rw [hW])
  clear hW
  go_wp2_with fail
  go_loopw [12] (fun v12 wr => ∃ (k : Nat) (a' : DSt), k ≤ times ∧ v12 = .int .i64 (k : Int) ∧ DaeIn wr base gd g (N + 600 * k) a' F1 ∧ GB W wr (DWr base F1) ∧ SendsTo g n c (times - k) a' b) (fun v12 _ => times - (intOf v12).toNat)
  case atStart => exact ⟨0, a, Nat.zero_le _, rfl, H1.out, GB.refl _ _, HS.out⟩
  case round =>
    obtain ⟨k, a', hk, rfl, hd, hg, hs⟩ := hrel
    have HD := Lib.hid hd; have HG := Lib.hid hg
    clear hd hg
    by_cases hlt : k < times
    · have hki : (k : Int) < (times : Int) := by omega
      obtain ⟨j, hj⟩ : ∃ j, times - k = j + 1 := ⟨times - k - 1, by omega⟩
      rw [hj] at hs
      have hj1 : times - (k + 1) = j := by omega
      have HJ := Lib.hid hj1
      clear hj hj1
      cases hs with
      | @cons _ q m _ a1 b1 _ hf hm hm1 hdr hq hb1 hrest =>
        have HF := Lib.hid hf; have HM := Lib.hid hm; have HDR := Lib.hid hdr; have HB1 := Lib.hid hb1; have HRE := Lib.hid hrest
        clear hf hm hdr hb1 hrest
        have kb := HG.out.blk KB.out NB.out
        have e0 : wr.cell? ⟨w.heap.size, 0, none⟩ = some (.int .u8 (c.op : Int)) := blk_cell kb 0
        have e1 : wr.cell? ⟨w.heap.size, 1, none⟩ = some (.int .i64 (c.pol : Int)) := blk_cell kb 1
        have e2 : wr.cell? ⟨w.heap.size, 2, none⟩ = some (.slice K kl kc) := blk_cell kb 2
        have e3 : wr.cell? ⟨w.heap.size, 3, none⟩ = some (.int .i64 (c.num : Int)) := blk_cell kb 3
        have RQ := crequest_norm c HC.out kl HKL.out K kc wr (HG.out.rd HR.out (fun p hp => NK.out p hp))
        rw [HFL.out] at RQ
        unfold RetFr callV at RQ
        dsimp only at RQ
        rw [Hfn.out] at RQ
        have RQh := Lib.hid RQ
        clear RQ kb
        go_upto_region 3 with fail
        go_wp2_with fail
        refine RQh.out.mono ?_
        rintro e w3 ⟨A3, c3, rfl, o3, x3⟩
        have X3 := Lib.hid x3
        have FD := Lib.hid ((HD.out.ext x3).feed_ (m := fn) (c := c3) HF.out (by rw [HFL.out]; exact Hfn.out) (by rw [HFL.out]; exact Rd.of_own o3))
        clear o3 x3 RQh e0 e1 e2 e3
        go_wp2_with fail
        refine FD.out.mono ?_
        rintro e w4 ⟨rfl, h4, g4⟩
        have H4 := Lib.hid h4; have G4 := Lib.hid (HG.out.trans (GB.back X3.out g4) (fun i e => .inl e))
        have OT := Lib.hid (h4.out_ hn HM.out (by omega))
        clear h4 g4 FD
        go_wp2_with fail
        refine OT.out.mono ?_
        rintro e w5 ⟨A5, c5, rfl, -, x5⟩
        have H5 := Lib.hid (H4.out.ext x5); have G5 := Lib.hid (G4.out.ext x5)
        clear x5 OT
        go_wp2_with fail
        go_loopw [10] (fun v10 wx => ∃ (i : Nat) (st : DSt), i ≤ q ∧ v10 = .int .i64 (i : Int) ∧ DaeIn wx base gd g (N + 600 * k + i) st F1 ∧ GB W wx (DWr base F1) ∧ DRun g n (grewB n m) (q - i) st b1) (fun v10 _ => q - (intOf v10).toNat)
        case atStart => exact ⟨0, a1, Nat.zero_le _, rfl, H5.out, G5.out, HDR.out⟩
        case round =>
          obtain ⟨i, st, hi, rfl, hd, hg, hrun⟩ := hrel
          have HD9 := Lib.hid hd; have HG9 := Lib.hid hg
          clear hd hg
          by_cases hstop : (st.ls n).wr.length = m
          · have hne : q - i ≠ 0 := fun e => by
              rw [e] at hrun
              cases hrun with
              | done hs9 => exact absurd hstop (of_decide_eq_true hs9)
            obtain ⟨p, hp⟩ : ∃ p, q - i = p + 1 := ⟨q - i - 1, by omega⟩
            rw [hp] at hrun
            have hp1 : q - (i + 1) = p := by omega
            have HP1 := Lib.hid hp1
            have hiq : i < q := by omega
            clear hp hp1
            cases hrun with
            | @step _ _ st2 _ _ hdo hrest =>
              have HRE9 := Lib.hid hrest
              have OT := Lib.hid (HD9.out.out_ hn hstop (by omega))
              have DO := Lib.hid (fun u (y : Ext wr u) => (HD9.out.ext y).do_ (by omega) hdo)
              have h512 : ¬ (512 : Int) < (i : Int) := by omega
              have h512d : decide ((512 : Int) < (i : Int)) = false := decide_eq_false h512
              have hadd : IntKind.i64.wrap ((i : Int) + 1) = ((i + 1 : Nat) : Int) := by rw [IntKind.wrap_i64]; omega
              have HST := Lib.hid hstop
              clear hdo hrest hstop hne
              go_wp2_with fail
              refine OT.out.mono ?_
              rintro e w6 ⟨A6, c6, rfl, -, x6⟩
              have X6 := Lib.hid x6
              clear OT x6
              go_wp2_with fail
              refine (DO.out _ X6.out).mono ?_
              rintro e w7 ⟨rfl, h7, g7⟩
              have H7 := Lib.hid h7; have G7 := Lib.hid (HG9.out.trans (GB.back X6.out g7) (fun i e => .inl e))
              clear h7 g7 DO
              go_wp2_with fail
              go_roundw
              case rel => exact ⟨i + 1, st2, by omega, by go_num, H7.out, G7.out, by rw [HP1.out]; exact HRE9.out⟩
              case measure => simp [intOf]; omega
          · have h0 : q - i = 0 := by
              rcases Nat.eq_zero_or_pos (q - i) with e | e
              · exact e
              · obtain ⟨p, hp⟩ : ∃ p, q - i = p + 1 := ⟨q - i - 1, by omega⟩
                rw [hp] at hrun
                cases hrun with
                | step hs9 => exact absurd (of_decide_eq_false hs9) (fun h => h hstop)
            rw [h0] at hrun
            have est : b1 = st := by cases hrun; rfl
            subst est
            obtain ⟨m2, HM2⟩ : ∃ m2, Hid ((b1.ls n).wr.length = m2) := ⟨_, rfl⟩
            rw [HM2.out] at hstop
            have hm2 : m2 ≤ 100000 := by have := HB1.out; rw [HM2.out] at this; exact this
            have OT := Lib.hid (HD9.out.out_ hn HM2.out (by omega))
            have hb : ((m2 : Int) == (m : Int)) = false := by rw [beq_eq_false_iff_ne]; omega
            have hadd : IntKind.i64.wrap ((k : Int) + 1) = ((k + 1 : Nat) : Int) := by rw [IntKind.wrap_i64]; omega
            clear hstop h0
            go_wp2_with fail
            refine OT.out.mono ?_
            rintro e w6 ⟨A6, c6, rfl, -, x6⟩
            have HF6 := Lib.hid (HD9.out.ext x6); have GF6 := Lib.hid (HG9.out.ext x6)
            clear OT x6
            go_wp2_with fail
            go_roundw
            case rel => 
              refine ⟨k + 1, b1, hlt, by go_num, ?_, GF6.out, by rw [HJ.out]; exact HRE.out⟩
              obtain ⟨z1, z2, z3, z4, z5, z6, z7, z8, z9⟩ := HF6.out
              exact ⟨z1, z2, z3, z4, z5, z6, z7, by omega, z9⟩
            case measure => simp [intOf]; omega
    · obtain rfl : k = times := by omega
      have hki : ¬ (k : Int) < (k : Int) := by omega
      have hz : k - k = 0 := by omega
      rw [hz] at hs
      cases hs
      go_wp2_with fail
      go_ret
      refine ⟨rfl, HD.out.more (Ext.refl _) (fun i hi => .inl (by rw [HF1.out]; exact .inl hi)), GB.back XW.out (HG.out.more (fun i _ e => ⟨e.1, fun e9 => e.2 (by rw [HF1.out]; exact .inl e9)⟩))⟩
end

section
open Go.RowKit

def serL (lo n : Nat) : List Int := (List.range n).map fun i => ((lo + i : Nat) : Int)
theorem serL_len (lo n : Nat) : (serL lo n).length = n := by simp [serL]
theorem serL_getD {lo n j : Nat} (h : j < n) : (serL lo n).getD j 0 = ((lo + j : Nat) : Int) := by
  simp [serL, List.getD_eq_getElem?_getD, h]
theorem serL_good {lo n : Nat} (h1 : 1 ≤ lo) (h2 : lo + n ≤ 4611686018427387903) : GoodL (serL lo n) := fun j hj => by
  rw [serL_len] at hj
  refine ⟨?_, ?_, fun h => ?_⟩
  · rw [serL_getD hj]; omega
  · rw [serL_getD hj]; omega
  · rw [serL_getD hj, serL_getD (by omega)]; omega
theorem serL_mem {lo n : Nat} {t : Int} : t ∈ serL lo n ↔ ((lo : Int) ≤ t ∧ t < ((lo + n : Nat) : Int)) := by
  unfold serL
  rw [List.mem_map]
  constructor
  · rintro ⟨i, hi, rfl⟩
    have := List.mem_range.1 hi
    omega
  · rintro ⟨h1, h2⟩
    exact ⟨(t - lo).toNat, List.mem_range.2 (by omega), by omega⟩
theorem serL_snoc (lo n : Nat) : serL lo n ++ [((lo + n : Nat) : Int)] = serL lo (n + 1) := by
  unfold serL
  rw [List.range_succ, List.map_append]
  rfl
theorem serL_cons (lo n : Nat) : serL lo (n + 1) = (lo : Int) :: serL (lo + 1) n := by
  unfold serL
  rw [List.range_succ_eq_map, List.map_cons, List.map_map]
  congr 1
  apply List.map_congr_left
  intro i _
  simp only [Function.comp]
  omega
theorem atI_serL (lo n : Nat) : atI (serL lo n) ((lo + n : Nat) : Int) = n := by
  induction n generalizing lo with
  | zero => rfl
  | succ n ih =>
    rw [serL_cons]
    unfold atI
    rw [if_pos (by omega), show lo + (n + 1) = lo + 1 + n by omega, ih]
theorem ins_serL (lo n : Nat) : insL (serL lo n) (atI (serL lo n) ((lo + n : Nat) : Int)) ((lo + n : Nat) : Int) = serL lo (n + 1) := by
  rw [atI_serL]
  unfold insL
  rw [List.take_of_length_le (by rw [serL_len]; exact Nat.le_refl n), List.drop_of_length_le (by rw [serL_len]; exact Nat.le_refl n), serL_snoc]
theorem del_serL (lo n : Nat) : delL (serL lo (n + 1)) (atI (serL lo (n + 1)) (lo : Int)) = serL (lo + 1) n := by
  have e : atI (serL lo (n + 1)) (lo : Int) = 0 := by
    rw [serL_cons]
    unfold atI
    rw [if_neg (by omega)]
  rw [e, serL_cons]
  rfl
/-- a semaphore of 64 permits alone -/
def P64 : List Pol := [⟨2, 0, 0, 64⟩]
/-- the words and what they hold, of a core with one key -/
structure CoreOf (key : List Nat) (lo n sn v : Nat) (th : Bool) (s : KSt) : Prop where
  wl : s.ws.length = 34
  hl : s.hs.length = 34
  w0 : s.ws.getD 0 0 = 0
  w1 : s.ws.getD 1 0 = v
  wc : s.ws.getD 32 0 = if th = true then 1 else 0
  ws : s.ws.getD 33 0 = sn
  h1 : s.hs.getD 1 [] = if th = true then [⟨0, key, 0, serL lo n⟩] else []
  v0 : v ≠ 0
  vM : v ≤ 1000000
  sM : lo + n = sn + 1
  sX : sn ≤ 1000000
  l1 : 1 ≤ lo
  n64 : n ≤ 64
  tn : th = false → n = 0
def xAcq (key : List Nat) : PCall := ⟨2, 0, key, 0⟩
def xRel (key : List Nat) (t : Int) : PCall := ⟨3, 0, key, t⟩
def f1 (key : List Nat) (lo n v : Nat) (th : Bool) : Found := ⟨1, v, if th = true then [⟨0, key, 0, serL lo n⟩] else [], 0, th⟩
def c1 (key : List Nat) (lo n : Nat) : PCell := ⟨0, key, 0, serL lo n⟩
theorem cells_ok {key : List Nat} {lo n : Nat} {th : Bool} (hk : key.length ≤ 255 ∧ ∀ x ∈ key, x < 256) (h1 : 1 ≤ lo) (h2 : lo + n ≤ 4000000) (hn : n ≤ 64) : CellsOk P64 (if th = true then [⟨0, key, 0, serL lo n⟩] else []) := by
  cases th with
  | false => exact ⟨List.Pairwise.nil, (fun c hc => by cases hc), Nat.zero_le _⟩
  | true =>
    refine ⟨List.pairwise_singleton _ _, fun c hc => ?_, (show 1 ≤ 5000 by omega)⟩
    rw [if_pos rfl] at hc
    rw [List.mem_singleton.1 hc]
    exact ⟨(show 0 < 1 by omega), hk.1, hk.2, (show (0 : Int) ≤ 0 by omega), (show (0 : Int) ≤ 4611686018427387903 by omega), serL_good h1 (by omega), by rw [serL_len]; exact hn, fun _ => by rw [serL_len]; show (n : Int) ≤ 64; omega⟩
theorem at_one {key : List Nat} {lo n : Nat} {th : Bool} : atK (if th = true then [(⟨0, key, 0, serL lo n⟩ : PCell)] else []) (0 :: key) = 0 := by
  cases th with
  | false => rfl
  | true =>
    rw [if_pos rfl]
    unfold atK
    rw [if_neg (by show ¬ ord (0 :: key) (0 :: key) < 0; rw [ord_refl]; omega)]
theorem has_one {key : List Nat} {lo n : Nat} {th : Bool} : hasK (if th = true then [(⟨0, key, 0, serL lo n⟩ : PCell)] else []) (0 :: key) = th := by
  unfold hasK
  rw [at_one]
  cases th with
  | false => rfl
  | true => exact decide_eq_true rfl
theorem cell_one {key : List Nat} {lo n : Nat} {th : Bool} (hn : th = false → n = 0) : cellK (if th = true then [(⟨0, key, 0, serL lo n⟩ : PCell)] else []) 0 key = c1 key lo n := by
  unfold cellK
  rw [has_one, at_one]
  cases th with
  | false => rw [hn rfl]; rfl
  | true => rfl
end

section
open Go.RowKit

/-- steps of a worker's call that bring no end -/
inductive KOn (P : List Pol) (room n : Nat) : Nat → KSt → KSt → Prop
  | nil {s : KSt} : KOn P room n 0 s s
  | cons {k : Nat} {s t : KSt} : KOk P s n → (kStep P room s n).2 = none → KOn P room n k (kStep P room s n).1 t → KOn P room n (k + 1) s t
theorem KOk.run {P : List Pol} {s : KSt} {n : Nat} (h : KOk P s n) : isRun (s.call n) = true := by
  cases h <;> (rename_i hc; try rw [hc]) <;> simp_all [isRun]
theorem kstep_on {P : List Pol} {room n : Nat} {s : KSt} {x : PCall} {res : Bool} {ser : Int} {k k' : Kont} {c : KC} (hc : s.call n = .run x res ser k) (hr : kRun P room x (s.kc res ser) k = (c, .on k')) : kStep P room s n = ((s.of c).put n (.run x c.res c.ser k'), none) := by
  unfold kStep
  rw [hc]
  dsimp only
  rw [hr]
theorem kstep_fin {P : List Pol} {room n : Nat} {s : KSt} {x : PCall} {res : Bool} {ser : Int} {k : Kont} {r : KRep} {c : KC} (hc : s.call n = .run x res ser k) (hr : kRun P room x (s.kc res ser) k = (c, .fin r)) : kStep P room s n = ((s.of c).put n .idle, some r) := by
  unfold kStep
  rw [hc]
  dsimp only
  rw [hr]
/-- a state whose n-th call is c -/
def kSt (ws : List Nat) (hs : List (List PCell)) (clk : Nat) (call : Nat → KCall) (n : Nat) (c : KCall) : KSt := ⟨ws, hs, clk, fun i => if i = n then c else call i⟩
theorem kSt_call (ws : List Nat) (hs : List (List PCell)) (clk : Nat) (call : Nat → KCall) (n : Nat) (c : KCall) : (kSt ws hs clk call n c).call n = c := if_pos rfl
theorem kSt_put (ws : List Nat) (hs : List (List PCell)) (clk : Nat) (call : Nat → KCall) (n : Nat) (c c' : KCall) (q : KC) : ((kSt ws hs clk call n c).of q).put n c' = kSt q.ws q.hs q.clk call n c' := by
  unfold kSt KSt.of KSt.put
  dsimp only
  congr 1
  funext i
  split <;> rfl
theorem kon {P : List Pol} {room n : Nat} {ws ws' : List Nat} {hs hs' : List (List PCell)} {clk clk' : Nat} {call : Nat → KCall} {x : PCall} {res res' : Bool} {ser ser' : Int} {k k' : Kont} {m : Nat} {t : KSt} (ok : KOk P (kSt ws hs clk call n (.run x res ser k)) n)
    (hr : kRun P room x ⟨ws, hs, clk, res, ser⟩ k = (⟨ws', hs', clk', res', ser'⟩, .on k')) (h : KOn P room n m (kSt ws' hs' clk' call n (.run x res' ser' k')) t) : KOn P room n (m + 1) (kSt ws hs clk call n (.run x res ser k)) t := by
  have e := kstep_on (P := P) (room := room) (s := kSt ws hs clk call n (.run x res ser k)) (kSt_call _ _ _ _ _ _) hr
  rw [kSt_put] at e
  refine .cons ok (by rw [e]) ?_
  rw [e]
  exact h
theorem getD_setS {l : List Nat} {i j v : Nat} (hi : i < l.length) : (l.set i v).getD j 0 = if i = j then v else l.getD j 0 := by
  rw [List.getD_eq_getElem?_getD, List.getD_eq_getElem?_getD, List.getElem?_set]
  split
  · next h => subst h; first | rfl | (rw [if_pos hi]; rfl)
  · rfl
theorem getD_setH {l : List (List PCell)} {i j : Nat} {v : List PCell} (hi : i < l.length) : (l.set i v).getD j [] = if i = j then v else l.getD j [] := by
  rw [List.getD_eq_getElem?_getD, List.getD_eq_getElem?_getD, List.getElem?_set]
  split
  · next h => subst h; first | rfl | (rw [if_pos hi]; rfl)
  · rfl
theorem core_ext {key : List Nat} {lo m sn v : Nat} {th : Bool} {s t : KSt} (h : CoreOf key lo m sn v th s) (h1 : t.ws = s.ws) (h2 : t.hs = s.hs) : CoreOf key lo m sn v th t := by
  obtain ⟨a1, a2, a3, a4, a5, a6, a7, a8, a9, a10, a11, a12, a13, a14⟩ := h
  exact ⟨by rw [h1]; exact a1, by rw [h2]; exact a2, by rw [h1]; exact a3, by rw [h1]; exact a4, by rw [h1]; exact a5, by rw [h1]; exact a6, by rw [h2]; exact a7, a8, a9, a10, a11, a12, a13, a14⟩
def idK (n : Nat) (call : Nat → KCall) : Nat → KCall := fun i => if i = n then .idle else call i
theorem kacq {key : List Nat} {lo m sn v : Nat} {th : Bool} {s : KSt} (R : CoreOf key lo m sn v th s) (hk : key.length ≤ 255 ∧ ∀ x ∈ key, x < 256) (hm : m < 64) (n : Nat) (hv : v + 1 ≤ 1000000) (hsn : sn + 1 ≤ 1000000) (hsum : sumK (0 :: key) < 18446744073709551616) :
    ∃ k t t2, 1 ≤ k ∧ k ≤ 10 ∧ KOn P64 4 n k (startK s n (xAcq key)) t ∧ KOk P64 t n ∧ kStep P64 4 t n = (t2, some ⟨0, true, 64 - ((m : Int) + 1), 0, ((sn + 1 : Nat) : Int), 0⟩) ∧ CoreOf key lo (m + 1) (sn + 1) (v + 1) true t2 ∧ t2.call = idK n s.call := by
  obtain ⟨ws, hs, clk, call⟩ := s
  obtain ⟨a1, a2, a3, a4, a5, a6, a7, a8, a9, a10, a11, a12, a13, a14⟩ := R
  dsimp only at a1 a2 a3 a4 a5 a6 a7
  have e0 : startK ⟨ws, hs, clk, call⟩ n (xAcq key) = kSt ws hs clk call n (.run (xAcq key) false 0 (.find (sumK (0 :: key)) .begin)) := by
    unfold startK firstK xAcq
    rw [if_neg (show ¬ (2 : Nat) = 6 by omega), if_neg (show ¬ (2 : Nat) = 5 by omega)]
    rfl
  rw [e0]
  have hp1 : placeK (0 / 2) (sumK (0 :: key)) = 1 := by unfold placeK; simp [Nat.mod_one]
  have hcl := cells_ok (key := key) (lo := lo) (n := m) (th := th) hk a12 (by omega) (by omega)
  have hcell := cell_one (key := key) (lo := lo) (n := m) (th := th) a14
  have hat := at_one (key := key) (lo := lo) (n := m) (th := th)
  have hhas := has_one (key := key) (lo := lo) (n := m) (th := th)
  have hF : Form (polAt P64 0).perm (c1 key lo m).held := ⟨by decide, by decide, by show ((serL lo m).length : Int) ≤ 64; rw [serL_len]; omega, serL_good a12 (by omega)⟩
  have hlo : ((sn + 1 : Nat) : Int) = ((lo + m : Nat) : Int) := by omega
  have hnm : ((sn + 1 : Nat) : Int) ∉ (c1 key lo m).held := fun e => by
    have := serL_mem.1 e
    omega
  -- find
  have k1 : kRun P64 4 (xAcq key) ⟨ws, hs, clk, false, 0⟩ (.find (sumK (0 :: key)) .begin) = (⟨ws, hs, clk, false, 0⟩, .on (.enter (sumK (0 :: key)) 1 .begin)) := by
    show ((⟨ws, hs, clk, false, 0⟩ : KC), if ws.getD 0 0 % 2 = 0 then KOut.on (.enter (sumK (0 :: key)) (placeK (ws.getD 0 0 / 2) (sumK (0 :: key))) .begin) else _) = _
    rw [a3, if_pos rfl, hp1]
  -- enter
  have k2 : kRun P64 4 (xAcq key) ⟨ws, hs, clk, false, 0⟩ (.enter (sumK (0 :: key)) 1 .begin) = (⟨ws, hs, clk, false, 0⟩, .on (.mv 33 1 4611686018427387903 (.serial (f1 key lo m v th) (c1 key lo m)))) := by
    show (_, enteredK P64 4 (xAcq key) false 0 (sumK (0 :: key)) 1 (ws.getD 1 0) (hs.getD 1 []) .begin) = _
    rw [a4, a7]
    unfold enteredK
    rw [if_neg (by unfold frozenN; omega)]
    show (_, beginK P64 4 (xAcq key) false 0 1 v _) = _
    rw [begin_acq rfl (by
      show ((cellK _ 0 key).held.length : Int) ≠ _
      rw [hcell]
      show ((serL lo m).length : Int) ≠ 64
      rw [serL_len]; omega)]
    show (_, KOut.on (.mv 33 1 4611686018427387903 (.serial ⟨1, v, _, atK _ (0 :: key), hasK _ (0 :: key)⟩ (cellK _ 0 key)))) = _
    rw [hcell, hat, hhas]
    rfl
  have hne : sn ≠ 4611686018427387903 := by omega
  have k3 : kRun P64 4 (xAcq key) ⟨ws, hs, clk, false, 0⟩ (.mv 33 1 4611686018427387903 (.serial (f1 key lo m v th) (c1 key lo m))) = (⟨ws, hs, clk, false, 0⟩, .on (.mvS 33 1 4611686018427387903 sn (.serial (f1 key lo m v th) (c1 key lo m)))) := by
    show ((⟨ws, hs, clk, false, 0⟩ : KC), if ws.getD 33 0 = 4611686018427387903 then _ else KOut.on (.mvS 33 1 4611686018427387903 (ws.getD 33 0) (.serial (f1 key lo m v th) (c1 key lo m)))) = _
    rw [a6, if_neg hne]
  have hmod : (sn + 1) % 18446744073709551616 = sn + 1 := Nat.mod_eq_of_lt (by omega)
  have hacq : acqK (polAt P64 0) (c1 key lo m) ((sn + 1 : Nat) : Int) = (⟨0, true, 64 - ((m : Int) + 1), 0, ((sn + 1 : Nat) : Int), 0⟩, c1 key lo (m + 1)) := by
    unfold acqK
    have e1 : insL (c1 key lo m).held (atI (c1 key lo m).held ((sn + 1 : Nat) : Int)) ((sn + 1 : Nat) : Int) = serL lo (m + 1) := by
      rw [hlo]
      exact ins_serL lo m
    rw [e1]
    show ((⟨0, true, 64 - (((serL lo m).length : Int) + 1), 0, ((sn + 1 : Nat) : Int), 0⟩ : KRep), _) = _
    rw [serL_len]
    rfl
  have k4 : kRun P64 4 (xAcq key) ⟨ws, hs, clk, false, 0⟩ (.mvS 33 1 4611686018427387903 sn (.serial (f1 key lo m v th) (c1 key lo m))) = (⟨ws.set 33 (sn + 1), hs.set 33 [], clk, false, ((sn + 1 : Nat) : Int)⟩, .on (putK 4 false (f1 key lo m v th) (c1 key lo (m + 1)) ⟨0, true, 64 - ((m : Int) + 1), 0, ((sn + 1 : Nat) : Int), 0⟩)) := by
    show (if ws.getD 33 0 = sn then ((⟨ws.set 33 ((sn + 1) % 18446744073709551616), hs.set 33 [], clk, false, (((sn + 1) % 18446744073709551616 : Nat) : Int)⟩ : KC), KOut.on (putK 4 false (f1 key lo m v th) (acqK (polAt P64 0) (c1 key lo m) (((sn + 1) % 18446744073709551616 : Nat) : Int)).2 (acqK (polAt P64 0) (c1 key lo m) (((sn + 1) % 18446744073709551616 : Nat) : Int)).1)) else _) = _
    rw [if_pos a6, hmod, hacq]
  have o1 : KOk P64 (kSt ws hs clk call n (.run (xAcq key) false 0 (.find (sumK (0 :: key)) .begin))) n := .find (u := 0) (kSt_call _ _ _ _ _ _) a3 (by omega) hsum
  have o2 : KOk P64 (kSt ws hs clk call n (.run (xAcq key) false 0 (.enter (sumK (0 :: key)) 1 .begin))) n :=
    .acq (u := v) (kSt_call _ _ _ _ _ _) (by omega) a4 a8 (by omega) (by show CellsOk P64 (hs.getD 1 []); rw [a7]; exact hcl) (by decide) ⟨(show 0 < 32 by omega), hk.1, hk.2⟩ rfl (by
      show ((cellK (hs.getD 1 []) 0 key).held.length : Int) ≠ 64
      rw [a7, hcell]
      show ((serL lo m).length : Int) ≠ 64
      rw [serL_len]; omega)
  have o3 : KOk P64 (kSt ws hs clk call n (.run (xAcq key) false 0 (.mv 33 1 4611686018427387903 (.serial (f1 key lo m v th) (c1 key lo m))))) n := .mv (u := sn) (kSt_call _ _ _ _ _ _) (by omega) a6 hne
  have o4 : KOk P64 (kSt ws hs clk call n (.run (xAcq key) false 0 (.mvS 33 1 4611686018427387903 sn (.serial (f1 key lo m v th) (c1 key lo m))))) n :=
    .ser (kSt_call _ _ _ _ _ _) a6 (by omega) hF hnm (by show ((serL lo m).length : Int) < 64; rw [serL_len]; omega)
  have w1 : (ws.set 33 (sn + 1)).getD 1 0 = v := by rw [getD_setS (by omega), if_neg (by omega)]; exact a4
  cases th with
  | true =>
    have ep : putK 4 false (f1 key lo m v true) (c1 key lo (m + 1)) ⟨0, true, 64 - ((m : Int) + 1), 0, ((sn + 1 : Nat) : Int), 0⟩ = .put (f1 key lo m v true) (c1 key lo (m + 1)) ⟨0, true, 64 - ((m : Int) + 1), 0, ((sn + 1 : Nat) : Int), 0⟩ := if_pos (.inl rfl)
    rw [ep] at k4
    have ew : withK [(⟨0, key, 0, serL lo m⟩ : PCell)] 0 true (c1 key lo (m + 1)) = [⟨0, key, 0, serL lo (m + 1)⟩] := rfl
    have k5 : kRun P64 4 (xAcq key) ⟨ws.set 33 (sn + 1), hs.set 33 [], clk, false, ((sn + 1 : Nat) : Int)⟩ (.put (f1 key lo m v true) (c1 key lo (m + 1)) ⟨0, true, 64 - ((m : Int) + 1), 0, ((sn + 1 : Nat) : Int), 0⟩) = (⟨(ws.set 33 (sn + 1)).set 1 (v + 1), (hs.set 33 []).set 1 [⟨0, key, 0, serL lo (m + 1)⟩], clk, false, ((sn + 1 : Nat) : Int)⟩, .fin ⟨0, true, 64 - ((m : Int) + 1), 0, ((sn + 1 : Nat) : Int), 0⟩) := by
      show (if (ws.set 33 (sn + 1)).getD 1 0 = v then ((⟨(ws.set 33 (sn + 1)).set 1 (v + 1), (hs.set 33 []).set 1 (withK [⟨0, key, 0, serL lo m⟩] 0 true (c1 key lo (m + 1))), clk, false, ((sn + 1 : Nat) : Int)⟩ : KC), _) else _) = _
      rw [if_pos w1, ew]
      rfl
    have e5 := kstep_fin (P := P64) (room := 4) (n := n) (s := kSt (ws.set 33 (sn + 1)) (hs.set 33 []) clk call n (.run (xAcq key) false ((sn + 1 : Nat) : Int) (.put (f1 key lo m v true) (c1 key lo (m + 1)) ⟨0, true, 64 - ((m : Int) + 1), 0, ((sn + 1 : Nat) : Int), 0⟩))) (kSt_call _ _ _ _ _ _) k5
    rw [kSt_put] at e5
    refine ⟨4, _, _, by omega, by omega, kon o1 k1 (kon o2 k2 (kon o3 k3 (kon o4 k4 .nil))), .put (kSt_call _ _ _ _ _ _) (by show 1 < 34; omega) w1 (by show v < _; omega) (Nat.zero_le _) (fun _ => (by show 0 < 1; omega)) (by show 1 ≤ 5000; omega) hk.1, e5, ⟨by simp [kSt, a1], by simp [kSt, a2], ?_, ?_, ?_, ?_, ?_, by omega, hv, by omega, hsn, a12, by omega, fun h => by cases h⟩, rfl⟩
    · show ((ws.set 33 (sn + 1)).set 1 (v + 1)).getD 0 0 = 0
      rw [getD_setS (by simp; omega), if_neg (by omega), getD_setS (by omega), if_neg (by omega)]; exact a3
    · show ((ws.set 33 (sn + 1)).set 1 (v + 1)).getD 1 0 = v + 1
      rw [getD_setS (by simp; omega), if_pos rfl]
    · show ((ws.set 33 (sn + 1)).set 1 (v + 1)).getD 32 0 = _
      rw [getD_setS (by simp; omega), if_neg (by omega), getD_setS (by omega), if_neg (by omega)]; exact a5
    · show ((ws.set 33 (sn + 1)).set 1 (v + 1)).getD 33 0 = sn + 1
      rw [getD_setS (by simp; omega), if_neg (by omega), getD_setS (by omega), if_pos rfl]
    · show ((hs.set 33 []).set 1 _).getD 1 [] = _
      rw [getD_setH (by simp; omega), if_pos rfl]
      rfl
  | false =>
    obtain rfl := a14 rfl
    have ep : putK 4 false (f1 key lo 0 v false) (c1 key lo (0 + 1)) ⟨0, true, 64 - (((0 : Nat) : Int) + 1), 0, ((sn + 1 : Nat) : Int), 0⟩ = .mv 32 1 4 (.count (f1 key lo 0 v false) (c1 key lo (0 + 1)) ⟨0, true, 64 - (((0 : Nat) : Int) + 1), 0, ((sn + 1 : Nat) : Int), 0⟩) := if_neg (by rintro (h | h) <;> cases h)
    rw [ep] at k4
    have w32 : (ws.set 33 (sn + 1)).getD 32 0 = 0 := by rw [getD_setS (by omega), if_neg (by omega)]; exact a5
    have k5 : kRun P64 4 (xAcq key) ⟨ws.set 33 (sn + 1), hs.set 33 [], clk, false, ((sn + 1 : Nat) : Int)⟩ (.mv 32 1 4 (.count (f1 key lo 0 v false) (c1 key lo (0 + 1)) ⟨0, true, 64 - (((0 : Nat) : Int) + 1), 0, ((sn + 1 : Nat) : Int), 0⟩)) = (⟨ws.set 33 (sn + 1), hs.set 33 [], clk, false, ((sn + 1 : Nat) : Int)⟩, .on (.mvS 32 1 4 0 (.count (f1 key lo 0 v false) (c1 key lo (0 + 1)) ⟨0, true, 64 - (((0 : Nat) : Int) + 1), 0, ((sn + 1 : Nat) : Int), 0⟩))) := by
      show ((⟨ws.set 33 (sn + 1), hs.set 33 [], clk, false, ((sn + 1 : Nat) : Int)⟩ : KC), if (ws.set 33 (sn + 1)).getD 32 0 = 4 then _ else KOut.on (.mvS 32 1 4 ((ws.set 33 (sn + 1)).getD 32 0) (.count (f1 key lo 0 v false) (c1 key lo (0 + 1)) ⟨0, true, 64 - (((0 : Nat) : Int) + 1), 0, ((sn + 1 : Nat) : Int), 0⟩))) = _
      rw [w32, if_neg (by omega)]
    have k6 : kRun P64 4 (xAcq key) ⟨ws.set 33 (sn + 1), hs.set 33 [], clk, false, ((sn + 1 : Nat) : Int)⟩ (.mvS 32 1 4 0 (.count (f1 key lo 0 v false) (c1 key lo (0 + 1)) ⟨0, true, 64 - (((0 : Nat) : Int) + 1), 0, ((sn + 1 : Nat) : Int), 0⟩)) = (⟨(ws.set 33 (sn + 1)).set 32 1, (hs.set 33 []).set 32 [], clk, true, ((sn + 1 : Nat) : Int)⟩, .on (.put (f1 key lo 0 v false) (c1 key lo (0 + 1)) ⟨0, true, 64 - (((0 : Nat) : Int) + 1), 0, ((sn + 1 : Nat) : Int), 0⟩)) := by
      show (if (ws.set 33 (sn + 1)).getD 32 0 = 0 then ((⟨(ws.set 33 (sn + 1)).set 32 1, (hs.set 33 []).set 32 [], clk, true, ((sn + 1 : Nat) : Int)⟩ : KC), KOut.on (.put (f1 key lo 0 v false) (c1 key lo (0 + 1)) ⟨0, true, 64 - (((0 : Nat) : Int) + 1), 0, ((sn + 1 : Nat) : Int), 0⟩)) else _) = _
      rw [if_pos w32]
    have w1' : ((ws.set 33 (sn + 1)).set 32 1).getD 1 0 = v := by rw [getD_setS (by simp; omega), if_neg (by omega)]; exact w1
    have ew : withK ([] : List PCell) 0 false (c1 key lo (0 + 1)) = [⟨0, key, 0, serL lo (0 + 1)⟩] := rfl
    have k7 : kRun P64 4 (xAcq key) ⟨(ws.set 33 (sn + 1)).set 32 1, (hs.set 33 []).set 32 [], clk, true, ((sn + 1 : Nat) : Int)⟩ (.put (f1 key lo 0 v false) (c1 key lo (0 + 1)) ⟨0, true, 64 - (((0 : Nat) : Int) + 1), 0, ((sn + 1 : Nat) : Int), 0⟩) = (⟨((ws.set 33 (sn + 1)).set 32 1).set 1 (v + 1), ((hs.set 33 []).set 32 []).set 1 [⟨0, key, 0, serL lo (0 + 1)⟩], clk, true, ((sn + 1 : Nat) : Int)⟩, .fin ⟨0, true, 64 - (((0 : Nat) : Int) + 1), 0, ((sn + 1 : Nat) : Int), 0⟩) := by
      show (if ((ws.set 33 (sn + 1)).set 32 1).getD 1 0 = v then ((⟨((ws.set 33 (sn + 1)).set 32 1).set 1 (v + 1), ((hs.set 33 []).set 32 []).set 1 (withK [] 0 false (c1 key lo (0 + 1))), clk, true, ((sn + 1 : Nat) : Int)⟩ : KC), _) else _) = _
      rw [if_pos w1', ew]
      rfl
    have e7 := kstep_fin (P := P64) (room := 4) (n := n) (s := kSt ((ws.set 33 (sn + 1)).set 32 1) ((hs.set 33 []).set 32 []) clk call n (.run (xAcq key) true ((sn + 1 : Nat) : Int) (.put (f1 key lo 0 v false) (c1 key lo (0 + 1)) ⟨0, true, 64 - (((0 : Nat) : Int) + 1), 0, ((sn + 1 : Nat) : Int), 0⟩))) (kSt_call _ _ _ _ _ _) k7
    rw [kSt_put] at e7
    have o5 : KOk P64 (kSt (ws.set 33 (sn + 1)) (hs.set 33 []) clk call n (.run (xAcq key) false ((sn + 1 : Nat) : Int) (.mv 32 1 4 (.count (f1 key lo 0 v false) (c1 key lo (0 + 1)) ⟨0, true, 64 - (((0 : Nat) : Int) + 1), 0, ((sn + 1 : Nat) : Int), 0⟩)))) n := .mv (u := 0) (kSt_call _ _ _ _ _ _) (by omega) w32 (by omega)
    have o6 : KOk P64 (kSt (ws.set 33 (sn + 1)) (hs.set 33 []) clk call n (.run (xAcq key) false ((sn + 1 : Nat) : Int) (.mvS 32 1 4 0 (.count (f1 key lo 0 v false) (c1 key lo (0 + 1)) ⟨0, true, 64 - (((0 : Nat) : Int) + 1), 0, ((sn + 1 : Nat) : Int), 0⟩)))) n := .cnt (kSt_call _ _ _ _ _ _) w32 (by omega)
    refine ⟨6, _, _, by omega, by omega, kon o1 k1 (kon o2 k2 (kon o3 k3 (kon o4 k4 (kon o5 k5 (kon o6 k6 .nil))))), .put (kSt_call _ _ _ _ _ _) (by show 1 < 34; omega) w1' (by show v < _; omega) (Nat.zero_le _) (fun h => by cases h) (by show 0 ≤ 5000; omega) hk.1, e7, ⟨by simp [kSt, a1], by simp [kSt, a2], ?_, ?_, ?_, ?_, ?_, by omega, hv, by omega, hsn, a12, by omega, fun h => by cases h⟩, rfl⟩
    · show (((ws.set 33 (sn + 1)).set 32 1).set 1 (v + 1)).getD 0 0 = 0
      rw [getD_setS (by simp; omega), if_neg (by omega), getD_setS (by simp; omega), if_neg (by omega), getD_setS (by omega), if_neg (by omega)]; exact a3
    · show (((ws.set 33 (sn + 1)).set 32 1).set 1 (v + 1)).getD 1 0 = v + 1
      rw [getD_setS (by simp; omega), if_pos rfl]
    · show (((ws.set 33 (sn + 1)).set 32 1).set 1 (v + 1)).getD 32 0 = _
      rw [getD_setS (by simp; omega), if_neg (by omega), getD_setS (by simp; omega), if_pos rfl]; rfl
    · show (((ws.set 33 (sn + 1)).set 32 1).set 1 (v + 1)).getD 33 0 = sn + 1
      rw [getD_setS (by simp; omega), if_neg (by omega), getD_setS (by simp; omega), if_neg (by omega), getD_setS (by omega), if_pos rfl]
    · show (((hs.set 33 []).set 32 []).set 1 _).getD 1 [] = _
      rw [getD_setH (by simp; omega), if_pos rfl]
      rfl
theorem krel_no {key : List Nat} {lo m sn v : Nat} {s : KSt} (R : CoreOf key lo m sn v true s) (hk : key.length ≤ 255 ∧ ∀ x ∈ key, x < 256) (n : Nat) (hsum : sumK (0 :: key) < 18446744073709551616) {t : Int} (ht : t ∉ serL lo m) :
    ∃ u u2, KOn P64 4 n 1 (startK s n (xRel key t)) u ∧ KOk P64 u n ∧ kStep P64 4 u n = (u2, some (errR 11)) ∧ CoreOf key lo m sn v true u2 ∧ u2.call = idK n s.call := by
  obtain ⟨ws, hs, clk, call⟩ := s
  obtain ⟨a1, a2, a3, a4, a5, a6, a7, a8, a9, a10, a11, a12, a13, a14⟩ := id R
  dsimp only at a1 a2 a3 a4 a5 a6 a7
  have e0 : startK ⟨ws, hs, clk, call⟩ n (xRel key t) = kSt ws hs clk call n (.run (xRel key t) false 0 (.find (sumK (0 :: key)) .begin)) := by
    unfold startK firstK xRel
    rw [if_neg (show ¬ (3 : Nat) = 6 by omega), if_neg (show ¬ (3 : Nat) = 5 by omega)]
    rfl
  rw [e0]
  have hp1 : placeK (0 / 2) (sumK (0 :: key)) = 1 := by unfold placeK; simp [Nat.mod_one]
  have hcl := cells_ok (key := key) (lo := lo) (n := m) (th := true) hk a12 (by omega) (by omega)
  have hcell := cell_one (key := key) (lo := lo) (n := m) (th := true) a14
  have hF : Form (polAt P64 0).perm (c1 key lo m).held := ⟨by decide, by decide, by show ((serL lo m).length : Int) ≤ 64; rw [serL_len]; omega, serL_good a12 (by omega)⟩
  have k1 : kRun P64 4 (xRel key t) ⟨ws, hs, clk, false, 0⟩ (.find (sumK (0 :: key)) .begin) = (⟨ws, hs, clk, false, 0⟩, .on (.enter (sumK (0 :: key)) 1 .begin)) := by
    show ((⟨ws, hs, clk, false, 0⟩ : KC), if ws.getD 0 0 % 2 = 0 then KOut.on (.enter (sumK (0 :: key)) (placeK (ws.getD 0 0 / 2) (sumK (0 :: key))) .begin) else _) = _
    rw [a3, if_pos rfl, hp1]
  have k2 : kRun P64 4 (xRel key t) ⟨ws, hs, clk, false, 0⟩ (.enter (sumK (0 :: key)) 1 .begin) = (⟨ws, hs, clk, false, 0⟩, .fin (errR 11)) := by
    show (_, enteredK P64 4 (xRel key t) false 0 (sumK (0 :: key)) 1 (ws.getD 1 0) (hs.getD 1 []) .begin) = _
    rw [a4, a7]
    unfold enteredK
    rw [if_neg (by unfold frozenN; omega)]
    show (_, beginK P64 4 (xRel key t) false 0 1 v _) = _
    rw [begin_rel_err rfl (by
      show t ∉ (cellK _ 0 key).held
      rw [hcell]
      exact ht)]
  have o1 : KOk P64 (kSt ws hs clk call n (.run (xRel key t) false 0 (.find (sumK (0 :: key)) .begin))) n := .find (u := 0) (kSt_call _ _ _ _ _ _) a3 (by omega) hsum
  have o2 : KOk P64 (kSt ws hs clk call n (.run (xRel key t) false 0 (.enter (sumK (0 :: key)) 1 .begin))) n :=
    .rel (u := v) (kSt_call _ _ _ _ _ _) (by omega) a4 a8 (by omega) (by show CellsOk P64 (hs.getD 1 []); rw [a7]; exact hcl) (by decide) ⟨(show 0 < 32 by omega), hk.1, hk.2⟩ rfl (by
      show Form (polAt P64 0).perm (cellK (hs.getD 1 []) 0 key).held
      rw [a7, hcell]
      exact hF)
  have e2 := kstep_fin (P := P64) (room := 4) (n := n) (s := kSt ws hs clk call n (.run (xRel key t) false 0 (.enter (sumK (0 :: key)) 1 .begin))) (kSt_call _ _ _ _ _ _) k2
  rw [kSt_put] at e2
  exact ⟨_, _, kon o1 k1 .nil, o2, e2, core_ext R rfl rfl, rfl⟩
theorem krel_yes {key : List Nat} {lo m sn v : Nat} {s : KSt} (R : CoreOf key lo (m + 1) sn v true s) (hk : key.length ≤ 255 ∧ ∀ x ∈ key, x < 256) (n : Nat) (hv : v + 1 ≤ 1000000) (hsum : sumK (0 :: key) < 18446744073709551616) :
    ∃ u u2 rp, KOn P64 4 n 2 (startK s n (xRel key (lo : Int))) u ∧ KOk P64 u n ∧ kStep P64 4 u n = (u2, some rp) ∧ CoreOf key (lo + 1) m sn (v + 1) true u2 ∧ u2.call = idK n s.call := by
  obtain ⟨ws, hs, clk, call⟩ := s
  obtain ⟨a1, a2, a3, a4, a5, a6, a7, a8, a9, a10, a11, a12, a13, a14⟩ := R
  dsimp only at a1 a2 a3 a4 a5 a6 a7
  have e0 : startK ⟨ws, hs, clk, call⟩ n (xRel key (lo : Int)) = kSt ws hs clk call n (.run (xRel key (lo : Int)) false 0 (.find (sumK (0 :: key)) .begin)) := by
    unfold startK firstK xRel
    rw [if_neg (show ¬ (3 : Nat) = 6 by omega), if_neg (show ¬ (3 : Nat) = 5 by omega)]
    rfl
  rw [e0]
  have hp1 : placeK (0 / 2) (sumK (0 :: key)) = 1 := by unfold placeK; simp [Nat.mod_one]
  have hcl := cells_ok (key := key) (lo := lo) (n := m + 1) (th := true) hk a12 (by omega) (by omega)
  have hcell := cell_one (key := key) (lo := lo) (n := m + 1) (th := true) a14
  have hat := at_one (key := key) (lo := lo) (n := m + 1) (th := true)
  have hhas := has_one (key := key) (lo := lo) (n := m + 1) (th := true)
  have hF : Form (polAt P64 0).perm (c1 key lo (m + 1)).held := ⟨by decide, by decide, by show ((serL lo (m + 1)).length : Int) ≤ 64; rw [serL_len]; omega, serL_good a12 (by omega)⟩
  have hmem : (lo : Int) ∈ (c1 key lo (m + 1)).held := serL_mem.2 ⟨by omega, by omega⟩
  have hrel : relK (polAt P64 0) (c1 key lo (m + 1)) (lo : Int) = (⟨0, true, 64 - (((m + 1 : Nat) : Int) - 1), 0, 0, 0⟩, c1 key (lo + 1) m) := by
    unfold relK
    rw [if_pos hmem]
    have e1 : delL (c1 key lo (m + 1)).held (atI (c1 key lo (m + 1)).held (lo : Int)) = serL (lo + 1) m := del_serL lo m
    rw [e1]
    show ((⟨0, true, 64 - (((serL lo (m + 1)).length : Int) - 1), 0, 0, 0⟩ : KRep), _) = _
    rw [serL_len]
    rfl
  have k1 : kRun P64 4 (xRel key (lo : Int)) ⟨ws, hs, clk, false, 0⟩ (.find (sumK (0 :: key)) .begin) = (⟨ws, hs, clk, false, 0⟩, .on (.enter (sumK (0 :: key)) 1 .begin)) := by
    show ((⟨ws, hs, clk, false, 0⟩ : KC), if ws.getD 0 0 % 2 = 0 then KOut.on (.enter (sumK (0 :: key)) (placeK (ws.getD 0 0 / 2) (sumK (0 :: key))) .begin) else _) = _
    rw [a3, if_pos rfl, hp1]
  have k2 : kRun P64 4 (xRel key (lo : Int)) ⟨ws, hs, clk, false, 0⟩ (.enter (sumK (0 :: key)) 1 .begin) = (⟨ws, hs, clk, false, 0⟩, .on (.put (f1 key lo (m + 1) v true) (c1 key (lo + 1) m) ⟨0, true, 64 - (((m + 1 : Nat) : Int) - 1), 0, 0, 0⟩)) := by
    show (_, enteredK P64 4 (xRel key (lo : Int)) false 0 (sumK (0 :: key)) 1 (ws.getD 1 0) (hs.getD 1 []) .begin) = _
    rw [a4, a7]
    unfold enteredK
    rw [if_neg (by unfold frozenN; omega)]
    show (_, beginK P64 4 (xRel key (lo : Int)) false 0 1 v _) = _
    rw [begin_rel rfl (by
      show (lo : Int) ∈ (cellK _ 0 key).held
      rw [hcell]
      exact hmem)]
    show (_, KOut.on (putK 4 false ⟨1, v, _, atK _ (0 :: key), hasK _ (0 :: key)⟩ (relK (polAt P64 0) (cellK _ 0 key) (lo : Int)).2 (relK (polAt P64 0) (cellK _ 0 key) (lo : Int)).1)) = _
    rw [hcell, hat, hhas, hrel]
    rfl
  have ew : withK [(⟨0, key, 0, serL lo (m + 1)⟩ : PCell)] 0 true (c1 key (lo + 1) m) = [⟨0, key, 0, serL (lo + 1) m⟩] := rfl
  have k3 : kRun P64 4 (xRel key (lo : Int)) ⟨ws, hs, clk, false, 0⟩ (.put (f1 key lo (m + 1) v true) (c1 key (lo + 1) m) ⟨0, true, 64 - (((m + 1 : Nat) : Int) - 1), 0, 0, 0⟩) = (⟨ws.set 1 (v + 1), hs.set 1 [⟨0, key, 0, serL (lo + 1) m⟩], clk, false, 0⟩, .fin ⟨0, true, 64 - (((m + 1 : Nat) : Int) - 1), 0, 0, 0⟩) := by
    show (if ws.getD 1 0 = v then ((⟨ws.set 1 (v + 1), hs.set 1 (withK [⟨0, key, 0, serL lo (m + 1)⟩] 0 true (c1 key (lo + 1) m)), clk, false, 0⟩ : KC), _) else _) = _
    rw [if_pos a4, ew]
    rfl
  have o1 : KOk P64 (kSt ws hs clk call n (.run (xRel key (lo : Int)) false 0 (.find (sumK (0 :: key)) .begin))) n := .find (u := 0) (kSt_call _ _ _ _ _ _) a3 (by omega) hsum
  have o2 : KOk P64 (kSt ws hs clk call n (.run (xRel key (lo : Int)) false 0 (.enter (sumK (0 :: key)) 1 .begin))) n :=
    .rel (u := v) (kSt_call _ _ _ _ _ _) (by omega) a4 a8 (by omega) (by show CellsOk P64 (hs.getD 1 []); rw [a7]; exact hcl) (by decide) ⟨(show 0 < 32 by omega), hk.1, hk.2⟩ rfl (by
      show Form (polAt P64 0).perm (cellK (hs.getD 1 []) 0 key).held
      rw [a7, hcell]
      exact hF)
  have e3 := kstep_fin (P := P64) (room := 4) (n := n) (s := kSt ws hs clk call n (.run (xRel key (lo : Int)) false 0 (.put (f1 key lo (m + 1) v true) (c1 key (lo + 1) m) ⟨0, true, 64 - (((m + 1 : Nat) : Int) - 1), 0, 0, 0⟩))) (kSt_call _ _ _ _ _ _) k3
  rw [kSt_put] at e3
  refine ⟨_, _, _, kon o1 k1 (kon o2 k2 .nil), .put (kSt_call _ _ _ _ _ _) (by show 1 < 34; omega) a4 (by show v < _; omega) (Nat.zero_le _) (fun _ => (by show 0 < 1; omega)) (by show 1 ≤ 5000; omega) hk.1, e3, ⟨by simp [kSt, a1], by simp [kSt, a2], ?_, ?_, ?_, ?_, ?_, by omega, hv, by omega, a11, by omega, by omega, fun h => by cases h⟩, rfl⟩
  · show (ws.set 1 (v + 1)).getD 0 0 = 0
    rw [getD_setS (by omega), if_neg (by omega)]; exact a3
  · show (ws.set 1 (v + 1)).getD 1 0 = v + 1
    rw [getD_setS (by omega), if_pos rfl]
  · show (ws.set 1 (v + 1)).getD 32 0 = _
    rw [getD_setS (by omega), if_neg (by omega)]; exact a5
  · show (ws.set 1 (v + 1)).getD 33 0 = sn
    rw [getD_setS (by omega), if_neg (by omega)]; exact a6
  · show (hs.set 1 _).getD 1 [] = _
    rw [getD_setH (by omega), if_pos rfl]
    rfl
end

section
open Go.RowKit

theorem do_feed_one {g : CoK} {n : Nat} {a : DSt} {s : CSt} {c : CCall} (hn : n < 63) (hst : (a.ls n).st = 1) (hdr : a.dr = false) (hs : (a.ls n).cn = some s) (hi : CInv s) (hid : s.ws = [] ∧ s.cl = false ∧ s.fin = 0 ∧ s.closed = false) (hline : s.line.length ≤ 1000) (hc : NormC c.op c.pol c.key c.num) :
    FeedTo g n (frameOf c) a { a with ls := upd1 a.ls n { a.ls n with cn := some { s with line := s.line ++ [c] } } } := by
  obtain ⟨i1, i2, i3, i4⟩ := hid
  obtain ⟨-, l1, l2, l3⟩ := norm_len' hc
  have hfs := fed_one i1 i2 i3 l1 (by omega) (decC_of hc)
  have hL : frameOf c = len4 (reqB c.op c.pol c.key c.num).length ++ reqB c.op c.pol c.key c.num := rfl
  have hb : ∀ x ∈ frameOf c, x < 256 := fun x hx => by
    rw [hL] at hx
    exact (List.mem_append.1 hx).elim (len4_lt _ x) (l3 x)
  have hnn : (frameOf c).length ≤ 1010 := by rw [hL, List.length_append]; simp [len4]; omega
  have hp : (parse (s.ws ++ frameOf c)).1.length ≤ 1000 + 10 := by
    obtain ⟨k1, -, -⟩ := parse_small ((s.ws ++ frameOf c).length + 1) (s.ws ++ frameOf c) (by omega)
    rw [i1, List.nil_append] at k1 ⊢
    omega
  have := do_feed (g := g) (a := a) hn hst hdr hs hi i4 i3 i2 hb (by rw [i1]; simp; omega) (by omega)
  rw [hL, hfs] at this
  exact this
def sO (led : List CTok) : CSt := ⟨[], false, [], 0, none, [], led, false, false⟩
def lO (wr : List Nat) (led : List CTok) : LSt := ⟨some (sO led), 1, wr, false, [], false⟩
def sA (led : List CTok) (c : CCall) : CSt := ⟨[], false, [c], 0, none, [], led, false, false⟩
def sB (led : List CTok) (c : CCall) : CSt := ⟨[], false, [], 0, some c, [], led, false, false⟩
def LedOk (led : List CTok) : Prop := led.length ≤ 1000 ∧ ∀ t ∈ led, t.key.length ≤ 255 ∧ (∀ x ∈ t.key, x < 256) ∧ 0 ≤ t.pol
theorem cinv_O {led : List CTok} (h : LedOk led) : CInv (sO led) := ⟨(fun x h => by cases h), (fun c h => by cases h), (fun c h => by cases h), (fun x h => by cases h), fun t ht => (h.2 t ht).2.1⟩
theorem cinv_B {led : List CTok} {c : CCall} (h : LedOk led) (hc : NormC c.op c.pol c.key c.num) : CInv (sB led c) := ⟨(fun x h => by cases h), (fun c h => by cases h), (fun d hd => by injection hd with hd; rw [← hd]; exact hc), (fun x h => by cases h), fun t ht => (h.2 t ht).2.1⟩
theorem feed_O {g : CoK} {n : Nat} {a : DSt} {wr : List Nat} {led : List CTok} {c : CCall} (hn : n < 63) (hdr : a.dr = false) (hl : a.ls n = lO wr led) (hled : LedOk led) (hc : NormC c.op c.pol c.key c.num) :
    FeedTo g n (frameOf c) a { a with ls := upd1 a.ls n ⟨some (sA led c), 1, wr, false, [], false⟩ } := by
  have := do_feed_one (g := g) (n := n) (a := a) (s := sO led) (c := c) hn (by rw [hl]; rfl) hdr (by rw [hl]; rfl) (cinv_O hled) ⟨rfl, rfl, rfl, rfl⟩ (Nat.zero_le _) hc
  rw [hl] at this
  exact this
theorem takeL_B (led : List CTok) (c : CCall) (wr : List Nat) : takeL ⟨some (sB led c), 1, wr, false, [], false⟩ = ⟨some (sB led c), 1, wr, false, [], false⟩ := by
  unfold takeL sB
  dsimp only
  rw [List.append_nil]
/-- steps that bring no answer -/
theorem drun_on {g : CoK} {n : Nat} {stop : DSt → Bool} {led : List CTok} {c : CCall} {wr : List Nat} {dr : Bool} {ls : Nat → LSt} (hn : n < 63) (hw : wr.length ≤ 1000000) (hstop : ∀ ks, stop ⟨ks, upd1 ls n ⟨some (sB led c), 1, wr, false, [], false⟩, dr⟩ = false) {b : DSt} {q : Nat} :
    ∀ {k : Nat} {ks ks1 : KSt}, KOn g.P g.room n k ks ks1 → DRun g n stop q ⟨ks1, upd1 ls n ⟨some (sB led c), 1, wr, false, [], false⟩, dr⟩ b → DRun g n stop (k + q) ⟨ks, upd1 ls n ⟨some (sB led c), 1, wr, false, [], false⟩, dr⟩ b
  | 0, ks, ks1, h, hd => by cases h; rw [Nat.zero_add]; exact hd
  | k + 1, ks, ks1, h, hd => by
    cases h with
    | cons ok h2 h3 =>
      have ih := drun_on hn hw hstop h3 hd
      rw [show k + 1 + q = k + q + 1 by omega]
      refine .step (hstop ks) (do_step hn (by show ((upd1 ls n _) n).st ≠ 0; rw [upd1_self]; exact (by omega : (1 : Nat) ≠ 0)) ?_) ih
      have := stepTo_pend (g := g) (n := n) (a := ⟨ks, upd1 ls n ⟨some (sB led c), 1, wr, false, [], false⟩, dr⟩) (ks' := (kStep g.P g.room ks n).1) (l' := ⟨some (sB led c), 1, wr, false, [], false⟩) (s' := sB led c) hn ok.run
        (by dsimp only; rw [upd1_upd1]; exact accTo_on hn ok h2) rfl hw (Nat.zero_le _)
      dsimp only at this
      rw [upd1_upd1, takeL_B] at this
      exact this
/-- a call's whole way: it is taken up, stepped, answered -/
theorem drun_call {g : CoK} {n k m : Nat} {led led2 : List CTok} {c : CCall} {wr : List Nat} {dr : Bool} {ls : Nat → LSt} {ks t t2 : KSt} {rp : KRep} (hn : n < 63) (hm : wr.length = m) (hw : m ≤ 100000) (hled : LedOk led) (hc : NormC c.op c.pol c.key c.num) (hrun : isRun (ks.call n) = false)
    (SC : StartTo g n ks (callP c)) (h1 : 1 ≤ k) (hon : KOn g.P g.room n k (startK ks n (callP c)) t) (ok : KOk g.P t n) (hk : kStep g.P g.room t n = (t2, some rp)) (hrp : RepOk rp) (h2 : repliedS (sB led c) c (rp.er : Int) rp.ser (repBy rp) = { sO led2 with wr := len4 (repBy rp).length ++ repBy rp }) (hne : 1 ≤ (repBy rp).length) :
    DRun g n (grewB n m) (k + 1) ⟨ks, upd1 ls n ⟨some (sA led c), 1, wr, false, [], false⟩, dr⟩ ⟨t2, upd1 ls n (lO (wr ++ (len4 (repBy rp).length ++ repBy rp)) led2), dr⟩ := by
  obtain ⟨k, rfl⟩ : ∃ j, k = j + 1 := ⟨k - 1, by omega⟩
  have hst : ∀ (ks : KSt) (l : LSt), l.wr = wr → grewB n m ⟨ks, upd1 ls n l, dr⟩ = false := fun ks l hl => by
    unfold grewB
    refine decide_eq_false (fun h => h ?_)
    dsimp only
    rw [upd1_self, hl]
    exact hm
  have hz : ∀ x : Nat, grewB n m ⟨t2, upd1 ls n (lO (wr ++ (len4 (repBy rp).length ++ repBy rp)) led2), dr⟩ = true := fun _ => by
    unfold grewB
    refine decide_eq_true ?_
    dsimp only
    rw [upd1_self]
    show (wr ++ (len4 (repBy rp).length ++ repBy rp)).length ≠ m
    rw [List.length_append, List.length_append]
    omega
  -- the last step
  have hlast : DRun g n (grewB n m) 1 ⟨t, upd1 ls n ⟨some (sB led c), 1, wr, false, [], false⟩, dr⟩ ⟨t2, upd1 ls n (lO (wr ++ (len4 (repBy rp).length ++ repBy rp)) led2), dr⟩ := by
    refine .step (hst _ _ rfl) (do_step hn (by show ((upd1 ls n _) n).st ≠ 0; rw [upd1_self]; exact (by omega : (1 : Nat) ≠ 0)) ?_) (.done (hz 0))
    have hrl : repliedL ⟨some (sB led c), 1, wr, false, [], false⟩ rp = ⟨some { sO led2 with wr := len4 (repBy rp).length ++ repBy rp }, 1, wr, false, [], false⟩ := by
      unfold repliedL
      dsimp only [sB]
      rw [show repliedS (⟨[], false, [], 0, some c, [], led, false, false⟩ : CSt) c (rp.er : Int) rp.ser (repBy rp) = _ from h2]
    have hrl2 : ∀ l : LSt, l = ⟨some (sB led c), 1, wr, false, [], false⟩ → upd1 ls n (repliedL l rp) = upd1 ls n ⟨some { sO led2 with wr := len4 (repBy rp).length ++ repBy rp }, 1, wr, false, [], false⟩ := fun l hl => by rw [hl, hrl]
    have A0 := accTo_rep (g := g) (n := n) (a := ⟨t, upd1 ls n ⟨some (sB led c), 1, wr, false, [], false⟩, dr⟩) hn ok (rp := rp) (by rw [hk]) (by show ((upd1 ls n _) n).rel = false; rw [upd1_self]) (s := sB led c) (by show ((upd1 ls n _) n).cn = _; rw [upd1_self]) (cinv_B hled hc) (Nat.zero_le _) (by have := hled.1; show led.length ≤ _; omega) rfl hrp
    dsimp only at A0
    rw [hk, upd1_upd1, hrl2 _ (upd1_self _ _ _)] at A0
    have hl4 : (repBy rp).length ≤ 1000 := by
      have := rep_len (repIs_by hrp)
      omega
    have := stepTo_pend (g := g) (n := n) (a := ⟨t, upd1 ls n ⟨some (sB led c), 1, wr, false, [], false⟩, dr⟩) (ks' := t2) (l' := ⟨some { sO led2 with wr := len4 (repBy rp).length ++ repBy rp }, 1, wr, false, [], false⟩) (s' := { sO led2 with wr := len4 (repBy rp).length ++ repBy rp }) hn ok.run
      (by dsimp only; rw [upd1_upd1]; exact A0) rfl (by show wr.length ≤ _; omega) (by show (len4 (repBy rp).length ++ repBy rp).length ≤ _; rw [List.length_append]; simp [len4]; omega)
    dsimp only at this
    rw [upd1_upd1] at this
    exact this
  cases hon with
  | @cons _ _ _ ok1 hnone hrest =>
    have hmid := drun_on (g := g) (n := n) (stop := grewB n m) (led := led) (c := c) (wr := wr) (dr := dr) (ls := ls) hn (by omega) (fun ks => hst ks _ rfl) hrest hlast
    refine .step (hst _ _ rfl) (do_step hn (by show ((upd1 ls n _) n).st ≠ 0; rw [upd1_self]; exact (by omega : (1 : Nat) ≠ 0)) ?_) hmid
    have hk255 : c.key.length ≤ 255 := (norm_len' hc).1
    have := stepTo_next (g := g) (n := n) (a := ⟨ks, upd1 ls n ⟨some (sA led c), 1, wr, false, [], false⟩, dr⟩) (ks' := (kStep g.P g.room (startK ks n (callP c)) n).1) (l' := ⟨some (sB led c), 1, wr, false, [], false⟩) (s := sA led c) (s' := sB led c) (c := c) (rest := []) hn hrun (by show ((upd1 ls n _) n).st = 1; rw [upd1_self]) (by show ((upd1 ls n _) n).cn = _; rw [upd1_self]) rfl rfl rfl hk255 SC
      (by
        dsimp only
        rw [upd1_upd1, upd1_upd1, upd1_self]
        exact accTo_on (g := g) (n := n) (a := ⟨startK ks n (callP c), upd1 ls n ⟨some (sB led c), 1, wr, false, [], false⟩, dr⟩) hn ok1 hnone) rfl (by show wr.length ≤ _; omega) (Nat.zero_le _)
    dsimp only at this
    rw [upd1_upd1, takeL_B] at this
    exact this
end

section
open Go.RowKit

def frsOf (rs : List KRep) : List Nat := rs.flatMap fun r => len4 (repBy r).length ++ repBy r
theorem frsOf_snoc (rs : List KRep) (r : KRep) : frsOf (rs ++ [r]) = frsOf rs ++ (len4 (repBy r).length ++ repBy r) := by
  unfold frsOf
  rw [List.flatMap_append]
  simp
theorem frsOf_len {rs : List KRep} (h : ∀ r ∈ rs, RepOk r) : (frsOf rs).length = 38 * rs.length := by
  induction rs with
  | nil => rfl
  | cons r rs ih =>
    have h1 := rep_len (repIs_by (h r List.mem_cons_self))
    have h2 := ih (fun q hq => h q (List.mem_cons_of_mem _ hq))
    unfold frsOf at h2 ⊢
    rw [List.flatMap_cons, List.length_append, List.length_append, h1, h2, List.length_cons]
    simp [len4]
    omega
def tokL (key : List Nat) (lo n : Nat) : List CTok := (List.range n).map fun i => ⟨0, key, ((lo + i : Nat) : Int)⟩
theorem tokL_len (key : List Nat) (lo n : Nat) : (tokL key lo n).length = n := by simp [tokL]
theorem tokL_snoc (key : List Nat) (lo n : Nat) : tokL key lo n ++ [⟨0, key, ((lo + n : Nat) : Int)⟩] = tokL key lo (n + 1) := by
  unfold tokL
  rw [List.range_succ, List.map_append]
  rfl
theorem tokL_cons (key : List Nat) (lo n : Nat) : tokL key lo (n + 1) = ⟨0, key, (lo : Int)⟩ :: tokL key (lo + 1) n := by
  unfold tokL
  rw [List.range_succ_eq_map, List.map_cons, List.map_map]
  congr 1
  apply List.map_congr_left
  intro i _
  simp only [Function.comp, CTok.mk.injEq, true_and]
  omega
theorem tokL_ok {key : List Nat} (hk : key.length ≤ 255 ∧ ∀ x ∈ key, x < 256) {lo n : Nat} (hn : n ≤ 1000) : LedOk (tokL key lo n) := by
  refine ⟨by rw [tokL_len]; exact hn, fun t ht => ?_⟩
  obtain ⟨i, -, rfl⟩ := List.mem_map.1 ht
  exact ⟨hk.1, hk.2, Int.le_refl _⟩
def cAcq (key : List Nat) : CCall := ⟨2, 0, key, 0⟩
def cRel (key : List Nat) (t : Nat) : CCall := ⟨3, 0, key, t⟩
theorem norm_cAcq {key : List Nat} (hk : key.length ≤ 255 ∧ ∀ x ∈ key, x < 256) : NormC (cAcq key).op (cAcq key).pol (cAcq key).key (cAcq key).num := by
  show NormC 2 0 key 0
  exact ⟨⟨by omega, by omega, fun _ => ⟨by omega, hk.1⟩, (fun h => by cases h), (fun h => by cases h)⟩, hk.2, (fun h => by omega), fun _ => rfl⟩
theorem norm_cRel {key : List Nat} {t : Nat} (hk : key.length ≤ 255 ∧ ∀ x ∈ key, x < 256) (h1 : 1 ≤ t) (h2 : t ≤ 1000000) : NormC (cRel key t).op (cRel key t).pol (cRel key t).key (cRel key t).num := by
  show NormC 3 0 key t
  exact ⟨⟨by omega, by omega, fun _ => ⟨by omega, hk.1⟩, (fun h => by cases h), (fun _ => ⟨h1, by omega⟩)⟩, hk.2, (fun h => by omega), (fun h => by omega)⟩
theorem pol64 : ∀ p ∈ P64, PolOk p := fun p hp => by
  rw [List.mem_singleton.1 hp]
  exact .inr ⟨rfl, by decide, by decide⟩
theorem sum_lt (k : List Nat) : sumK k < 18446744073709551616 := upd_lt _ _ (by decide)
/-- one connection's state, all calls at rest -/
structure At64 (key : List Nat) (lo m sn v : Nat) (th : Bool) (ks : KSt) : Prop where
  co : CoreOf key lo m sn v th ks
  id : ∀ i, ks.call i = .idle
theorem at_idle {key : List Nat} {lo m sn v : Nat} {th : Bool} {ks u : KSt} {n : Nat} (h : ∀ i, ks.call i = .idle) (co : CoreOf key lo m sn v th u) (hc : u.call = idK n ks.call) : At64 key lo m sn v th u :=
  ⟨co, fun i => by rw [hc]; unfold idK; split; rfl; exact h i⟩
theorem send_acq {g : CoK} (hgP : g.P = P64) (hgr : g.room = 4) {n : Nat} (hn : n < 63) {key : List Nat} (hk : key.length ≤ 255 ∧ ∀ x ∈ key, x < 256) {lo m sn v tlo tn : Nat} {th : Bool} {ks : KSt} {ls : Nat → LSt} {rs : List KRep} (A : At64 key lo m sn v th ks) (hm : m < 64) (hv : v + 1 ≤ 1000000) (hsn : sn + 1 ≤ 1000000) (hrs : ∀ r ∈ rs, RepOk r) (hrl : rs.length ≤ 1000) (htn : tlo + tn = sn + 1) (htn2 : tn ≤ 900) (hls : ls n = lO (frsOf rs) (tokL key tlo tn)) :
    ∃ b rp ks2, b = (⟨ks2, upd1 ls n (lO (frsOf (rs ++ [rp])) (tokL key tlo (tn + 1))), false⟩ : DSt) ∧ RepOk rp ∧ At64 key lo (m + 1) (sn + 1) (v + 1) true ks2 ∧ ∀ d j, SendsTo g n (cAcq key) j b d → SendsTo g n (cAcq key) (j + 1) ⟨ks, ls, false⟩ d := by
  obtain ⟨k, t, t2, k1, k10, hon, ok, hst, hco, hcl⟩ := kacq A.co hk hm n hv hsn (sum_lt _)
  have hled := tokL_ok (lo := tlo) (n := tn) hk (by omega)
  have hc := norm_cAcq hk
  have hrp : RepOk ⟨0, true, 64 - ((m : Int) + 1), 0, ((sn + 1 : Nat) : Int), 0⟩ := ⟨(show (0 : Nat) ≤ 16 by omega), ⟨by show (0 : Int) ≤ 64 - ((m : Int) + 1); omega, by show 64 - ((m : Int) + 1) ≤ (4611686018427387903 : Int); omega⟩, ⟨by show (0 : Int) ≤ 0; omega, by show (0 : Int) ≤ 4611686018427387903; omega⟩, ⟨by show (0 : Int) ≤ ((sn + 1 : Nat) : Int); omega, by show ((sn + 1 : Nat) : Int) ≤ 4611686018427387903; omega⟩, ⟨by show (0 : Int) ≤ 0; omega, by show (0 : Int) ≤ 4611686018427387903; omega⟩⟩
  have hl34 := rep_len (repIs_by hrp)
  have SC : StartTo g n ks (callP (cAcq key)) := startTo_sema (A.id n) (by omega) (by rw [hgP]; decide) (by rw [hgP]; exact pol64) (.inl rfl) (by rw [hgP]; show 0 < 1; omega) (by rw [hgP]; rfl) hk.1 hk.2
  have hrep : repliedS (sB (tokL key tlo tn) (cAcq key)) (cAcq key) (((⟨0, true, 64 - ((m : Int) + 1), 0, ((sn + 1 : Nat) : Int), 0⟩ : KRep).er : Nat) : Int) ((sn + 1 : Nat) : Int) (repBy ⟨0, true, 64 - ((m : Int) + 1), 0, ((sn + 1 : Nat) : Int), 0⟩) = { sO (tokL key tlo (tn + 1)) with wr := len4 (repBy ⟨0, true, 64 - ((m : Int) + 1), 0, ((sn + 1 : Nat) : Int), 0⟩).length ++ repBy ⟨0, true, 64 - ((m : Int) + 1), 0, ((sn + 1 : Nat) : Int), 0⟩ } := by
    have h9 := replied_acq (s := sB (tokL key tlo tn) (cAcq key)) (c := cAcq key) (sn := ((sn + 1 : Nat) : Int)) (B := repBy ⟨0, true, 64 - ((m : Int) + 1), 0, ((sn + 1 : Nat) : Int), 0⟩) rfl rfl
    rw [show (((⟨0, true, 64 - ((m : Int) + 1), 0, ((sn + 1 : Nat) : Int), 0⟩ : KRep).er : Nat) : Int) = 0 from rfl, h9]
    unfold sO sB
    dsimp only
    rw [List.nil_append, ← tokL_snoc, htn]
    rfl
  have hrun : isRun (ks.call n) = false := by rw [A.id n]; rfl
  have hw : (frsOf rs).length = 38 * rs.length := frsOf_len hrs
  have D1 := drun_call (g := g) (n := n) (k := k) (m := 38 * rs.length) (led := tokL key tlo tn) (led2 := tokL key tlo (tn + 1)) (c := cAcq key) (wr := frsOf rs) (dr := false) (ls := ls) (ks := ks) (t := t) (t2 := t2) (rp := ⟨0, true, 64 - ((m : Int) + 1), 0, ((sn + 1 : Nat) : Int), 0⟩) hn hw (by omega) hled hc hrun SC k1
    (by rw [hgP, hgr]; exact hon) (by rw [hgP]; exact ok) (by rw [hgP, hgr]; exact hst) hrp hrep (by omega)
  rw [← frsOf_snoc] at D1
  refine ⟨_, ⟨0, true, 64 - ((m : Int) + 1), 0, ((sn + 1 : Nat) : Int), 0⟩, t2, rfl, hrp, at_idle A.id hco hcl, fun d j hd => ?_⟩
  have hf := feed_O (g := g) (n := n) (a := ⟨ks, ls, false⟩) hn rfl hls hled hc
  refine .cons hf (by show ((upd1 ls n _) n).wr.length = _; rw [upd1_self]; exact hw) (by omega) D1 (by omega) ?_ hd
  show ((upd1 ls n _) n).wr.length ≤ _
  rw [upd1_self]
  show (frsOf (rs ++ [_])).length ≤ _
  rw [frsOf_snoc, List.length_append, List.length_append, hw, hl34]
  simp [len4]
  omega
theorem sends_acq {g : CoK} (hgP : g.P = P64) (hgr : g.room = 4) {n : Nat} (hn : n < 63) {key : List Nat} (hk : key.length ≤ 255 ∧ ∀ x ∈ key, x < 256) : ∀ (j : Nat) {lo m sn v tlo tn : Nat} {th : Bool} {ks : KSt} {ls : Nat → LSt} {rs : List KRep}, At64 key lo m sn v th ks → m + j ≤ 64 → v + j ≤ 1000000 → sn + j ≤ 1000000 → (∀ r ∈ rs, RepOk r) → rs.length + j ≤ 1000 → tlo + tn = sn + 1 → tn + j ≤ 900 → ls n = lO (frsOf rs) (tokL key tlo tn) →
    ∃ rs2 ks2, (∀ r ∈ rs2, RepOk r) ∧ rs2.length = rs.length + j ∧ At64 key lo (m + j) (sn + j) (v + j) (th || decide (0 < j)) ks2 ∧ SendsTo g n (cAcq key) j ⟨ks, ls, false⟩ ⟨ks2, upd1 ls n (lO (frsOf rs2) (tokL key tlo (tn + j))), false⟩
  | 0, lo, m, sn, v, tlo, tn, th, ks, ls, rs, A, _, _, _, hrs, _, _, _, hls => by
    refine ⟨rs, ks, hrs, rfl, by simpa using A, ?_⟩
    rw [Nat.add_zero, ← hls, upd1_eq]
    exact .nil
  | j + 1, lo, m, sn, v, tlo, tn, th, ks, ls, rs, A, hm, hv, hsn, hrs, hrl, htn, htn2, hls => by
    obtain ⟨b, rp, ks2, rfl, hrp, A2, hcons⟩ := send_acq hgP hgr hn hk A (by omega) (by omega) (by omega) hrs (by omega) htn (by omega) hls
    have hrs2 : ∀ r ∈ rs ++ [rp], RepOk r := fun r hr => by
      rcases List.mem_append.1 hr with hr | hr
      · exact hrs r hr
      · rw [List.mem_singleton.1 hr]; exact hrp
    obtain ⟨rs3, ks3, h1, h2, h3, h4⟩ := sends_acq hgP hgr hn hk j (rs := rs ++ [rp]) (ls := upd1 ls n (lO (frsOf (rs ++ [rp])) (tokL key tlo (tn + 1)))) (tn := tn + 1) A2 (by omega) (by omega) (by omega) hrs2 (by simp; omega) (by omega) (by omega) (upd1_self _ _ _)
    refine ⟨rs3, ks3, h1, by rw [h2]; simp; omega, ?_, ?_⟩
    · have e : (true || decide (0 < j)) = (th || decide (0 < j + 1)) := by simp
      rw [← e, show m + (j + 1) = m + 1 + j by omega, show sn + (j + 1) = sn + 1 + j by omega, show v + (j + 1) = v + 1 + j by omega]
      exact h3
    · rw [upd1_upd1, show tn + 1 + j = tn + (j + 1) by omega] at h4
      exact hcons _ _ h4
theorem send_no {g : CoK} (hgP : g.P = P64) (hgr : g.room = 4) {n : Nat} (hn : n < 63) {key : List Nat} (hk : key.length ≤ 255 ∧ ∀ x ∈ key, x < 256) {lo m sn v tlo tn t : Nat} {ks : KSt} {ls : Nat → LSt} {rs : List KRep} (A : At64 key lo m sn v true ks) (h1t : 1 ≤ t) (h2t : t ≤ 1000000) (ht : (t : Int) ∉ serL lo m) (hrs : ∀ r ∈ rs, RepOk r) (hrl : rs.length ≤ 1000) (htn2 : tn ≤ 900) (hls : ls n = lO (frsOf rs) (tokL key tlo tn)) :
    ∃ ks2, At64 key lo m sn v true ks2 ∧ SendsTo g n (cRel key t) 1 ⟨ks, ls, false⟩ ⟨ks2, upd1 ls n (lO (frsOf (rs ++ [errR 11])) (tokL key tlo tn)), false⟩ := by
  obtain ⟨u, u2, hon, ok, hst, hco, hcl⟩ := krel_no A.co hk n (sum_lt _) ht
  have hled := tokL_ok (lo := tlo) (n := tn) hk (by omega)
  have hc := norm_cRel hk h1t h2t
  have hrp : RepOk (errR 11) := ⟨(show (11 : Nat) ≤ 16 by omega), ⟨Int.le_refl 0, by show (0 : Int) ≤ 4611686018427387903; omega⟩, ⟨Int.le_refl 0, by show (0 : Int) ≤ 4611686018427387903; omega⟩, ⟨Int.le_refl 0, by show (0 : Int) ≤ 4611686018427387903; omega⟩, ⟨Int.le_refl 0, by show (0 : Int) ≤ 4611686018427387903; omega⟩⟩
  have hl34 := rep_len (repIs_by hrp)
  have SC : StartTo g n ks (callP (cRel key t)) := startTo_sema (A.id n) (by omega) (by rw [hgP]; decide) (by rw [hgP]; exact pol64) (.inr rfl) (by rw [hgP]; show 0 < 1; omega) (by rw [hgP]; rfl) hk.1 hk.2
  have hrep : repliedS (sB (tokL key tlo tn) (cRel key t)) (cRel key t) (((errR 11).er : Nat) : Int) (errR 11).ser (repBy (errR 11)) = { sO (tokL key tlo tn) with wr := len4 (repBy (errR 11)).length ++ repBy (errR 11) } := by
    have h9 := replied_err (s := sB (tokL key tlo tn) (cRel key t)) (c := cRel key t) (e := 11) (B := repBy (errR 11)) (by omega) rfl (errR 11).ser
    rw [show (((errR 11).er : Nat) : Int) = 11 from rfl, h9]
    unfold sO sB
    dsimp only
    rw [List.nil_append]
  have hrun : isRun (ks.call n) = false := by rw [A.id n]; rfl
  have hw : (frsOf rs).length = 38 * rs.length := frsOf_len hrs
  have D1 := drun_call (g := g) (n := n) (k := 1) (m := 38 * rs.length) (led := tokL key tlo tn) (led2 := tokL key tlo tn) (c := cRel key t) (wr := frsOf rs) (dr := false) (ls := ls) (ks := ks) (t := u) (t2 := u2) (rp := errR 11) hn hw (by omega) hled hc hrun SC (Nat.le_refl _)
    (by rw [hgP, hgr]; exact hon) (by rw [hgP]; exact ok) (by rw [hgP, hgr]; exact hst) hrp hrep (by omega)
  rw [← frsOf_snoc] at D1
  refine ⟨u2, at_idle A.id hco hcl, ?_⟩
  have hf := feed_O (g := g) (n := n) (a := ⟨ks, ls, false⟩) hn rfl hls hled hc
  refine .cons hf (by show ((upd1 ls n _) n).wr.length = _; rw [upd1_self]; exact hw) (by omega) D1 (by omega) ?_ .nil
  show ((upd1 ls n _) n).wr.length ≤ _
  rw [upd1_self]
  show (frsOf (rs ++ [_])).length ≤ _
  rw [frsOf_snoc, List.length_append, List.length_append, hw, hl34]
  simp [len4]
  omega
end

section
open Go.RowKit

def sH (led : List CTok) : CSt := ⟨[], false, [], 0, none, [], led, true, true⟩
def lH (wr : List Nat) (led toks : List CTok) (rel : Bool) : LSt := ⟨some (sH led), 2, wr, rel, toks, true⟩
def goneB (n : Nat) (s : DSt) : Bool := decide ((s.ls n).st = 0)
theorem hangL_O (wr : List Nat) (led : List CTok) : hangL (lO wr led) = ⟨some (sH led), 2, wr, false, [], false⟩ := by
  unfold hangL lO sO
  dsimp only
  rw [List.append_nil]
  rfl
theorem takeL_H (wr : List Nat) (led toks : List CTok) (rel : Bool) (st : Nat) : takeL ⟨some (sH led), st, wr, rel, toks, true⟩ = ⟨some (sH led), st, wr, rel, toks, true⟩ := by
  unfold takeL sH
  dsimp only
  rw [List.append_nil]
theorem drun_hang {g : CoK} (hgP : g.P = P64) (hgr : g.room = 4) {key : List Nat} (hk : key.length ≤ 255 ∧ ∀ x ∈ key, x < 256) {led : List CTok} (hled : LedOk led) {wr : List Nat} (hw : wr.length ≤ 100000) {n : Nat} (hn : n < 63) : ∀ (m : Nat) {lo b sn v : Nat} {ks : KSt} {ls : Nat → LSt} {l : LSt}, At64 key lo (m + b) sn v true ks → m ≤ 1000 → v + m ≤ 1000000 → l.cn = some (sH led) → l.st = 2 → l.wr = wr → lookL l (sH led) = lH wr led (tokL key lo m) false → ls n = l →
    ∃ ks2 l2, l2.st = 0 ∧ At64 key (lo + m) b sn (v + m) true ks2 ∧ DRun g n (goneB n) (3 * m + 1) ⟨ks, ls, false⟩ ⟨ks2, upd1 ls n l2, false⟩
  | 0, lo, b, sn, v, ks, ls, l, A, hm, hv, h1, h2, h3, h4, hls => by
    have hgo : goneB n ⟨ks, ls, false⟩ = false := decide_eq_false (by show (ls n).st ≠ 0; rw [hls, h2]; omega)
    have S := stepTo_hung (g := g) (n := n) (a := ⟨ks, ls, false⟩) (b := ⟨ks, upd1 ls n (takeL { lookL (ls n) (sH led) with st := 0 }), false⟩) (s := sH led) hn (by show isRun (ks.call n) = false; rw [A.id n]; rfl) (by show (ls n).st = 2; rw [hls]; exact h2) (by show (ls n).cn = _; rw [hls]; exact h1) (by have := hled.1; show led.length ≤ _; omega) (fun t ht => by have := (hled.2 t ht).1; omega)
      (by show (lookL (ls n) (sH led)).toks.length ≤ _; rw [hls, h4]; exact Nat.zero_le _)
      (.inl ⟨by show (lookL (ls n) (sH led)).toks = []; rw [hls, h4]; rfl, by show (ls n).wr.length ≤ _; rw [hls, h3]; omega, Nat.zero_le _, rfl⟩)
    rw [hls, h4] at S
    refine ⟨ks, _, ?_, by simpa using A, .step hgo (do_step hn (by show (ls n).st ≠ 0; rw [hls, h2]; omega) S) (.done ?_)⟩
    · show (takeL ⟨some (sH led), 0, wr, false, [], true⟩).st = 0
      rw [takeL_H]
    · refine decide_eq_true ?_
      show ((upd1 ls n _) n).st = 0
      rw [upd1_self]
      show (takeL ⟨some (sH led), 0, wr, false, [], true⟩).st = 0
      rw [takeL_H]
  | m + 1, lo, b, sn, v, ks, ls, l, A, hm, hv, h1, h2, h3, h4, hls => by
    have hco : CoreOf key lo (m + b + 1) sn v true ks := by rw [show m + b + 1 = m + 1 + b by omega]; exact A.co
    obtain ⟨u, u2, rp, hon, ok, hst, hco2, hcl⟩ := krel_yes hco hk n (by omega) (sum_lt _)
    have hgo : goneB n ⟨ks, ls, false⟩ = false := decide_eq_false (by show (ls n).st ≠ 0; rw [hls, h2]; omega)
    have hgoH : ∀ ks toks rel, goneB n ⟨ks, upd1 ls n (lH wr led toks rel), false⟩ = false := fun ks toks rel => decide_eq_false (by show ((upd1 ls n _) n).st ≠ 0; rw [upd1_self]; exact (by omega : (2 : Nat) ≠ 0))
    have hdoH : ∀ ks toks rel, ((⟨ks, upd1 ls n (lH wr led toks rel), false⟩ : DSt).ls n).st ≠ 0 := fun ks toks rel => by
      show ((upd1 ls n _) n).st ≠ 0
      rw [upd1_self]
      exact (by omega : (2 : Nat) ≠ 0)
    rw [tokL_cons] at h4
    have hol : (tokL key (lo + 1) m).length = m := tokL_len _ _ _
    cases hon with
    | @cons _ _ _ ok1 hn1 hon2 =>
      cases hon2 with
      | @cons _ _ _ ok2 hn2 hon3 =>
        cases hon3
        have SC : StartTo g n ks (tokP ⟨0, key, (lo : Int)⟩) := startTo_sema (A.id n) (by omega) (by rw [hgP]; decide) (by rw [hgP]; exact pol64) (.inr rfl) (by rw [hgP]; show 0 < 1; omega) (by rw [hgP]; rfl) hk.1 hk.2
        have ex : tokP ⟨0, key, (lo : Int)⟩ = xRel key (lo : Int) := rfl
        -- first step
        have A1 := accTo_on (g := g) (n := n) (a := ⟨startK ks n (tokP ⟨0, key, (lo : Int)⟩), upd1 ls n (lH wr led (⟨0, key, (lo : Int)⟩ :: tokL key (lo + 1) m) true), false⟩) hn (by rw [hgP, ex]; exact ok1) (by rw [hgP, hgr, ex]; exact hn1)
        have S1 := stepTo_hung (g := g) (n := n) (a := ⟨ks, ls, false⟩) (b := ⟨(kStep g.P g.room (startK ks n (tokP ⟨0, key, (lo : Int)⟩)) n).1, upd1 ls n (takeL (lH wr led (⟨0, key, (lo : Int)⟩ :: tokL key (lo + 1) m) true)), false⟩) (s := sH led) hn (by show isRun (ks.call n) = false; rw [A.id n]; rfl) (by show (ls n).st = 2; rw [hls]; exact h2) (by show (ls n).cn = _; rw [hls]; exact h1) (by have := hled.1; show led.length ≤ _; omega) (fun t ht => by have := (hled.2 t ht).1; omega)
          (by show (lookL (ls n) (sH led)).toks.length ≤ _; rw [hls, h4]; show (_ :: tokL key (lo + 1) m).length ≤ _; rw [List.length_cons, hol]; omega)
          (.inr ⟨⟨0, key, (lo : Int)⟩, tokL key (lo + 1) m, lH wr led (⟨0, key, (lo : Int)⟩ :: tokL key (lo + 1) m) true, sH led, _, by show (lookL (ls n) (sH led)).toks = _; rw [hls, h4]; rfl, rfl, by show (0 : Int) ≤ 0; omega, hk.1, SC, by
            show AccTo g n ⟨_, upd1 ls n { lookL (ls n) (sH led) with rel := true }, false⟩ _
            rw [hls, h4]
            exact A1, rfl, by show wr.length ≤ _; omega, Nat.zero_le _⟩)
        rw [show takeL (lH wr led (⟨0, key, (lo : Int)⟩ :: tokL key (lo + 1) m) true) = lH wr led (⟨0, key, (lo : Int)⟩ :: tokL key (lo + 1) m) true from takeL_H _ _ _ _ _, hgP, hgr, ex] at S1
        -- second step
        have A2 := accTo_on (g := g) (n := n) (a := ⟨(kStep P64 4 (startK ks n (xRel key (lo : Int))) n).1, upd1 ls n (lH wr led (⟨0, key, (lo : Int)⟩ :: tokL key (lo + 1) m) true), false⟩) hn (by rw [hgP]; exact ok2) (by rw [hgP, hgr]; exact hn2)
        rw [hgP, hgr] at A2
        have S2 := stepTo_pend (g := g) (n := n) (a := ⟨(kStep P64 4 (startK ks n (xRel key (lo : Int))) n).1, upd1 ls n (lH wr led (⟨0, key, (lo : Int)⟩ :: tokL key (lo + 1) m) true), false⟩) (l' := lH wr led (⟨0, key, (lo : Int)⟩ :: tokL key (lo + 1) m) true) (s' := sH led) hn ok2.run (by dsimp only; rw [upd1_upd1]; exact A2) rfl (by show wr.length ≤ _; omega) (Nat.zero_le _)
        dsimp only at S2
        rw [upd1_upd1, show takeL (lH wr led (⟨0, key, (lo : Int)⟩ :: tokL key (lo + 1) m) true) = lH wr led (⟨0, key, (lo : Int)⟩ :: tokL key (lo + 1) m) true from takeL_H _ _ _ _ _] at S2
        -- third step
        have A3 := accTo_rel (g := g) (n := n) (a := ⟨(kStep P64 4 (kStep P64 4 (startK ks n (xRel key (lo : Int))) n).1 n).1, upd1 ls n (lH wr led (⟨0, key, (lo : Int)⟩ :: tokL key (lo + 1) m) true), false⟩) hn (by rw [hgP]; exact ok) (rp := rp) (by rw [hgP, hgr, hst]) (by show ((upd1 ls n _) n).rel = true; rw [upd1_self]; rfl) (t := ⟨0, key, (lo : Int)⟩) (ts := tokL key (lo + 1) m) (by show ((upd1 ls n _) n).toks = _; rw [upd1_self]; rfl) (by rw [hol]; omega)
        dsimp only at A3
        rw [hgP, hgr, hst, upd1_upd1, upd1_self] at A3
        have S3 := stepTo_pend (g := g) (n := n) (a := ⟨(kStep P64 4 (kStep P64 4 (startK ks n (xRel key (lo : Int))) n).1 n).1, upd1 ls n (lH wr led (⟨0, key, (lo : Int)⟩ :: tokL key (lo + 1) m) true), false⟩) (ks' := u2) (l' := lH wr led (tokL key (lo + 1) m) false) (s' := sH led) hn ok.run (by dsimp only; rw [upd1_upd1]; exact A3) rfl (by show wr.length ≤ _; omega) (Nat.zero_le _)
        dsimp only at S3
        rw [upd1_upd1, show takeL (lH wr led (tokL key (lo + 1) m) false) = lH wr led (tokL key (lo + 1) m) false from takeL_H _ _ _ _ _] at S3
        -- and so on
        obtain ⟨ks9, l9, g1, g2, g3⟩ := drun_hang hgP hgr hk hled hw hn m (lo := lo + 1) (b := b) (sn := sn) (v := v + 1) (ks := u2) (ls := upd1 ls n (lH wr led (tokL key (lo + 1) m) false)) (l := lH wr led (tokL key (lo + 1) m) false) (at_idle A.id hco2 hcl) (by omega) (by omega) rfl rfl rfl rfl (upd1_self _ _ _)
        rw [upd1_upd1] at g3
        refine ⟨ks9, l9, g1, by rw [show lo + (m + 1) = lo + 1 + m by omega, show v + (m + 1) = v + 1 + m by omega]; exact g2, ?_⟩
        rw [show 3 * (m + 1) + 1 = (3 * m + 1) + 1 + 1 + 1 by omega]
        refine .step hgo (do_step hn (by show (ls n).st ≠ 0; rw [hls, h2]; omega) S1) (.step (hgoH _ _ _) (do_step hn (hdoH _ _ _) S2) (.step (hgoH _ _ _) (do_step hn (hdoH _ _ _) S3) g3))
end

section
open Go.RowKit

theorem at_init (key : List Nat) : At64 key 1 0 0 1 false kInit := by
  refine ⟨⟨rfl, rfl, rfl, rfl, rfl, rfl, rfl, by omega, by omega, by omega, by omega, by omega, by omega, fun _ => rfl⟩, fun _ => rfl⟩
def st2G : DSt := ⟨kInit, upd1 (upd1 (fun _ => lnZ) 0 lnNew) 1 lnNew, false⟩
/-- the cells of a core with one key -/
def CoreSays (key : List Nat) (lo n : Nat) (ks : KSt) : Prop := ks.ws.getD 0 0 = 0 ∧ ks.hs.getD 1 [] = [⟨0, key, 0, serL lo n⟩]
theorem says_of {key : List Nat} {lo m sn v : Nat} {ks : KSt} (h : At64 key lo m sn v true ks) : CoreSays key lo m ks := ⟨h.co.w0, h.co.h1⟩
theorem given_plan {g : CoK} (hgP : g.P = P64) (hgr : g.room = 4) {key : List Nat} (hk : key.length ≤ 255 ∧ ∀ x ∈ key, x < 256) {a b : Nat} (ha : 1 ≤ a) (ha2 : a ≤ 20) (hb : 1 ≤ b) (hb2 : b ≤ 20) :
    ∃ st3 st4 st6 w0 rs1, SendsTo g 0 (cAcq key) a st2G st3 ∧ SendsTo g 1 (cAcq key) b st3 st4 ∧ st4.ls 0 = lO w0 (tokL key 1 a) ∧ st4.ls 1 = lO (frsOf rs1) (tokL key (a + 1) b) ∧ (∀ r ∈ rs1, RepOk r) ∧ rs1.length = b ∧
      DoTo g 4 0 0 0 st4 { st4 with ls := upd1 st4.ls 0 (hangL (st4.ls 0)) } ∧ DRun g 0 (goneB 0) (3 * a + 1) { st4 with ls := upd1 st4.ls 0 (hangL (st4.ls 0)) } st6 ∧ st6.ls 1 = lO (frsOf rs1) (tokL key (a + 1) b) ∧ CoreSays key (1 + a) b st6.ks ∧
      ∀ t, 1 ≤ t → t ≤ a → ∃ st7, SendsTo g 1 (cRel key t) 1 st6 st7 ∧ st7.ls 1 = lO (frsOf (rs1 ++ [errR 11])) (tokL key (a + 1) b) ∧ CoreSays key (1 + a) b st7.ks := by
  obtain ⟨rs0, ks3, h1, h2, h3, h4⟩ := sends_acq hgP hgr (n := 0) (by omega) hk a (lo := 1) (m := 0) (sn := 0) (v := 1) (tlo := 1) (tn := 0) (th := false) (ks := kInit) (ls := upd1 (upd1 (fun _ => lnZ) 0 lnNew) 1 lnNew) (rs := []) (at_init key) (by omega) (by omega) (by omega) (by simp) (by simp; omega) (by omega) (by omega) rfl
  rw [show (false || decide (0 < a)) = true by simp; omega, Nat.zero_add] at h3
  rw [Nat.zero_add] at h4
  obtain ⟨rs1, ks4, k1, k2, k3, k4⟩ := sends_acq hgP hgr (n := 1) (by omega) hk b (lo := 1) (m := a) (sn := a) (v := 1 + a) (tlo := a + 1) (tn := 0) (th := true) (ks := ks3) (ls := upd1 (upd1 (upd1 (fun _ => lnZ) 0 lnNew) 1 lnNew) 0 (lO (frsOf rs0) (tokL key 1 a))) (rs := []) h3 (by omega) (by omega) (by omega) (by simp) (by simp; omega) (by omega) (by omega) rfl
  rw [show (true || decide (0 < b)) = true by simp] at k3
  rw [Nat.zero_add] at k4
  have hw0 : (frsOf rs0).length ≤ 1000 := by rw [frsOf_len h1, h2]; simp; omega
  have hled0 := tokL_ok (lo := 1) (n := a) hk (by omega)
  have l0 : (upd1 (upd1 (upd1 (upd1 (fun _ => lnZ) 0 lnNew) 1 lnNew) 0 (lO (frsOf rs0) (tokL key 1 a))) 1 (lO (frsOf rs1) (tokL key (a + 1) b))) 0 = lO (frsOf rs0) (tokL key 1 a) := rfl
  have l1 : (upd1 (upd1 (upd1 (upd1 (fun _ => lnZ) 0 lnNew) 1 lnNew) 0 (lO (frsOf rs0) (tokL key 1 a))) 1 (lO (frsOf rs1) (tokL key (a + 1) b))) 1 = lO (frsOf rs1) (tokL key (a + 1) b) := rfl
  have k3' : At64 key 1 (a + b) (a + b) (1 + a + b) true ks4 := k3
  obtain ⟨ks6, l2, g1, g2, g3⟩ := drun_hang hgP hgr hk hled0 (wr := frsOf rs0) (by omega) (n := 0) (by omega) a (lo := 1) (b := b) (sn := a + b) (v := 1 + a + b) (ks := ks4) (ls := upd1 (upd1 (upd1 (upd1 (upd1 (fun _ => lnZ) 0 lnNew) 1 lnNew) 0 (lO (frsOf rs0) (tokL key 1 a))) 1 (lO (frsOf rs1) (tokL key (a + 1) b))) 0 (hangL (lO (frsOf rs0) (tokL key 1 a)))) (l := hangL (lO (frsOf rs0) (tokL key 1 a))) k3' (by omega) (by omega) (by rw [hangL_O]) (by rw [hangL_O]) (by rw [hangL_O]) (by rw [hangL_O]; rfl) (upd1_self _ _ _)
  refine ⟨_, _, _, frsOf rs0, rs1, h4, k4, l0, l1, k1, by rw [k2]; simp, ?_, g3, rfl, says_of g2, fun t ht1 ht2 => ?_⟩
  · refine do_hang (g := g) (n := 0) (a := ⟨ks4, _, false⟩) (s := sO (tokL key 1 a)) (by omega) ?_ ?_ ?_ (Nat.zero_le _) ?_ (fun t ht => ?_)
    · dsimp only; rw [l0]; rfl
    · dsimp only; rw [l0]; rfl
    · dsimp only; rw [l0]; show (frsOf rs0).length ≤ _; omega
    · show (tokL key 1 a).length ≤ _; rw [tokL_len]; omega
    · have := (hled0.2 t ht).1; omega
  · obtain ⟨ks7, m1, m2⟩ := send_no hgP hgr (n := 1) (by omega) hk (t := t) (tlo := a + 1) (tn := b) (ks := ks6) (ls := upd1 (upd1 (upd1 (upd1 (upd1 (upd1 (fun _ => lnZ) 0 lnNew) 1 lnNew) 0 (lO (frsOf rs0) (tokL key 1 a))) 1 (lO (frsOf rs1) (tokL key (a + 1) b))) 0 (hangL (lO (frsOf rs0) (tokL key 1 a)))) 0 l2) (rs := rs1) g2 ht1 (by omega) (fun e => by have := serL_mem.1 e; omega) k1 (by rw [k2]; simp; omega) (by omega) rfl
    exact ⟨_, m2, rfl, says_of m1⟩
end

section
open Go.RowKit

/-- what Frames answers -/
def FramesR (xs : List Nat) (w : World) (e : Ending) (w' : World) : Prop :=
  ∃ B m d, e = .returned (.tuple #[.slice B m d, .int .i64 ((xs.length - (parse xs).2.1.length : Nat) : Int), .bool (parse xs).2.2]) ∧ PL w' w.heap.size B m d (parse xs).1 ∧ Ext w w'
theorem numB_take4 {xs : List Nat} (hb : ∀ x ∈ xs, x < 256) : numB (xs.take 4) < 4294967296 := by
  have h := numB_lt (xs.take 4) (fun x hx => hb x (List.mem_of_mem_take hx))
  refine Nat.lt_of_lt_of_le h (Nat.le_trans (Nat.pow_le_pow_right (by omega) (List.length_take_le 4 xs)) (by decide))
set_option maxRecDepth 100000 in
set_option maxHeartbeats 2000000 in
theorem frames_any (w : World) (A : Option Addr) (n c : Nat) (xs : List Nat) (hl : xs.length = n) (hnc : n ≤ c) (hb : ∀ x ∈ xs, x < 256) (hr : Rd w A (vals .u8 xs)) (hN : n ≤ 5000000000000) :
    Calls Tryz.prog 65 #[.slice A n c] w (FramesR xs w) := by
  have Hl := Lib.hid hl; have Hb := Lib.hid hb; have Hr := Lib.hid hr; clear hl hb hr
  go_enter Tryz.func65, Tryz.ntmps65
  go_wp2_with fail
  go_loopw [5, 6] (fun v5 v6 wr => ∃ (k m d : Nat) (B : Option Addr) (pss : List (List Nat)), v5 = .slice B m d ∧ v6 = .int .i64 (k : Int) ∧ k ≤ n ∧ m ≤ k ∧ PL wr w.heap.size B m d pss ∧ Ext w wr ∧ pss ++ (parse (xs.drop k)).1 = (parse xs).1 ∧ (parse (xs.drop k)).2 = (parse xs).2) (fun _ v6 _ => n - (intOf v6).toNat)
  case atStart => exact ⟨0, 0, 0, none, [], rfl, rfl, Nat.zero_le _, Nat.le_refl _, PL.nil _ _, Ext.refl w, rfl, rfl⟩
  case round =>
    obtain ⟨k, m, d, B, pss, rfl, rfl, hk, hmk, hP, hx, hp1, hp2⟩ := hrel
    have HP := Lib.hid hP; have HX := Lib.hid hx; have HP1 := Lib.hid hp1; have HP2 := Lib.hid hp2
    have hdl0 : (xs.drop k).length = n - k := by rw [List.length_drop, Hl.out]
    obtain ⟨nk, hnk⟩ : ∃ nk, n - k = nk := ⟨_, rfl⟩
    have hsub : IntKind.i64.wrap ((n : Int) - (k : Int)) = (nk : Int) := by rw [IntKind.wrap_i64]; omega
    have hdl : (xs.drop k).length = nk := hdl0.trans hnk
    have HDL := Lib.hid hdl; have HNK := Lib.hid hnk
    clear hP hx hp1 hp2 hdl0
    by_cases h4 : nk < 4
    · have hh : headF (xs.drop k) = 0 := headF_few (by omega)
      have h4i : ¬ (4 : Int) ≤ (nk : Int) := by omega
      have h4d : decide ((4 : Int) ≤ (nk : Int)) = false := decide_eq_false h4i
      have FIN : Hid (FramesR xs w (.returned (.tuple #[.slice B m d, .int .i64 (k : Int), .bool false])) wr) := Lib.hid (by
        have e1 := parse_wait hh
        have h1 := HP1.out; have h2 := HP2.out
        rw [e1] at h1 h2
        refine ⟨B, m, d, ?_, by rw [← h1, List.append_nil]; exact HP.out, HX.out⟩
        rw [← h2, Hl.out]
        dsimp only
        rw [hdl, show n - nk = k by have := HNK.out; omega])
      clear hh hdl h4 hnk
      go_wp2_with fail
      go_ret3
      exact FIN.out
    · have h4d : decide ((4 : Int) ≤ (nk : Int)) = true := decide_eq_true (by omega)
      obtain ⟨N, hN'⟩ : ∃ N, numB ((xs.drop k).take 4) = N := ⟨_, rfl⟩
      have hbd : ∀ x ∈ xs.drop k, x < 256 := fun x hx => Hb.out x (List.mem_of_mem_drop hx)
      have hN4 : N < 4294967296 := by rw [← hN']; exact numB_take4 hbd
      obtain ⟨k4, hk4⟩ : ∃ k4, k + 4 = k4 := ⟨_, rfl⟩
      have HK4 := Lib.hid hk4
      have hw4 : IntKind.i64.wrap ((k : Int) + 4) = (k4 : Int) := by rw [IntKind.wrap_i64]; omega
      obtain ⟨A1, hs1, hr1⟩ := slice_mid_any (P := Tryz.prog) Tryz.underlying32 size_u8 (A := A) (n := n) (c := c) (m := 4) (d := c - k) k k4 rfl rfl (by omega) hnc (by omega) (by omega)
      have hv1 := hr1 wr (vals .u8 xs) (by rw [vals_len]; exact Hl.out) (Hr.out.ext HX.out)
      rw [← vals_drop, ← vals_take] at hv1
      have NUM0 := docNumber_any wr A1 4 (c - k) ((xs.drop k).take 4) (by rw [List.length_take, hdl]; omega) (by omega) (fun x hx => hbd x (List.mem_of_mem_take hx)) hv1
      rw [hN'] at NUM0
      have NUM := Lib.hid NUM0
      have HNN := Lib.hid hN'; have HBD := Lib.hid hbd
      have hwN : IntKind.i64.wrap (N : Int) = (N : Int) := by rw [IntKind.wrap_i64]; omega
      have HH := Lib.hid (show headF (xs.drop k) = if N = 0 ∨ 4096 < N then 1 else if nk - 4 < N then 0 else 2 by
        unfold headF
        rw [hdl, if_neg h4, hN'])
      have H4 := Lib.hid h4
      clear hN' hbd hv1 hr1 NUM0 hdl h4
      by_cases hbad : N = 0 ∨ 4096 < N
      · have FIN : Hid (FramesR xs w (.returned (.tuple #[.slice B m d, .int .i64 (k : Int), .bool true])) wr) := Lib.hid (by
          have hh := HH.out
          rw [if_pos hbad] at hh
          have e1 := parse_bad hh
          have h1 := HP1.out; have h2 := HP2.out
          rw [e1] at h1 h2
          refine ⟨B, m, d, ?_, by rw [← h1, List.append_nil]; exact HP.out, HX.out⟩
          rw [← h2, Hl.out]
          dsimp only
          rw [HDL.out, show n - nk = k by have := HNK.out; omega])
        rcases hbad with h0 | h0
        · have b1 : decide ((N : Int) < 1) = true := decide_eq_true (by omega)
          clear h0 hk4 hnk
          go_wp2_with fail
          refine NUM.out.mono ?_
          rintro e w3 ⟨rfl, rfl⟩
          go_wp2_with fail
          go_ret3
          exact FIN.out
        · have b1 : decide ((N : Int) < 1) = false := decide_eq_false (by omega)
          have b2 : decide ((4096 : Int) < (N : Int)) = true := decide_eq_true (by omega)
          clear h0 hk4 hnk
          go_wp2_with fail
          refine NUM.out.mono ?_
          rintro e w3 ⟨rfl, rfl⟩
          go_wp2_with fail
          go_ret3
          exact FIN.out
      · have hN1 : 1 ≤ N := by omega
        have hN2 : N ≤ 4096 := by omega
        have b1 : decide ((N : Int) < 1) = false := decide_eq_false (by omega)
        have b2 : decide ((4096 : Int) < (N : Int)) = false := decide_eq_false (by omega)
        obtain ⟨n5, hn5⟩ : ∃ n5, nk - 4 = n5 := ⟨_, rfl⟩
        have hsub2 : IntKind.i64.wrap ((nk : Int) - 4) = (n5 : Int) := by have := H4.out; rw [IntKind.wrap_i64]; omega
        have HN5 := Lib.hid hn5
        by_cases hfew : nk - 4 < N
        · have b3 : decide ((n5 : Int) < (N : Int)) = true := decide_eq_true (by omega)
          have b3' : decide (n5 < N) = true := decide_eq_true (by omega)
          have FIN : Hid (FramesR xs w (.returned (.tuple #[.slice B m d, .int .i64 (k : Int), .bool false])) wr) := Lib.hid (by
            have hh := HH.out
            rw [if_neg hbad, if_pos hfew] at hh
            have e1 := parse_wait hh
            have h1 := HP1.out; have h2 := HP2.out
            rw [e1] at h1 h2
            refine ⟨B, m, d, ?_, by rw [← h1, List.append_nil]; exact HP.out, HX.out⟩
            rw [← h2, Hl.out]
            dsimp only
            rw [HDL.out, show n - nk = k by have := HNK.out; omega])
          clear hfew hbad hn5 hk4 hnk
          go_wp2_with fail
          refine NUM.out.mono ?_
          rintro e w3 ⟨rfl, rfl⟩
          go_wp2_with fail
          go_ret3
          exact FIN.out
        · have b3 : decide ((n5 : Int) < (N : Int)) = false := decide_eq_false (by omega)
          have b3' : decide (n5 < N) = false := decide_eq_false (by omega)
          have h4n := H4.out
          have hh : headF (xs.drop k) = 2 := by have h9 := HH.out; rwa [if_neg hbad, if_neg hfew] at h9
          obtain ⟨kN, hkN⟩ : ∃ kN, k4 + N = kN := ⟨_, rfl⟩
          obtain ⟨fN, hfN⟩ : ∃ fN, 4 + N = fN := ⟨_, rfl⟩
          have hw5 : IntKind.i64.wrap ((k4 : Int) + (N : Int)) = (kN : Int) := by rw [IntKind.wrap_i64]; omega
          have hw6 : IntKind.i64.wrap ((4 : Int) + (N : Int)) = (fN : Int) := by rw [IntKind.wrap_i64]; omega
          have hw7 : IntKind.i64.wrap ((k : Int) + (fN : Int)) = (kN : Int) := by rw [IntKind.wrap_i64]; omega
          have HF3 := Lib.hid (show N ≤ n5 by omega)
          have HKN := Lib.hid hkN; have HFN := Lib.hid hfN
          obtain ⟨A2, hs2, hr2⟩ := slice_mid_any (P := Tryz.prog) Tryz.underlying32 size_u8 (A := A) (n := n) (c := c) (m := N) (d := c - k4) k4 kN rfl rfl (by omega) hnc (by omega) (by omega)
          have hpay : (xs.drop k4).take N = payF (xs.drop k) := by unfold payF; rw [HNN.out, List.drop_drop, hk4]
          have hrest : restF (xs.drop k) = xs.drop kN := by unfold restF; rw [HNN.out, List.drop_drop, List.drop_drop]; congr 1; omega
          have hpl : (payF (xs.drop k)).length = N := by rw [(restF_lt hh).2.1]; exact HNN.out
          have hv2 := fun u (x : Ext wr u) => hr2 u (vals .u8 xs) (by rw [vals_len]; exact Hl.out) ((Hr.out.ext HX.out).ext x)
          rw [← vals_drop, ← vals_take, hpay] at hv2
          have TW := Lib.hid (twin_any A2 N (c - k4) (payF (xs.drop k)) wr hpl (by omega) (hv2 wr (Ext.refl wr)))
          have HH2 := Lib.hid hh; have HPL := Lib.hid hpl; have HRE := Lib.hid hrest
          clear hfew hbad hh hpay hrest hpl hv2 hr2 hkN hfN hn5 hk4 hnk h4n
          go_wp2_with fail
          refine NUM.out.mono ?_
          rintro e w3 ⟨rfl, rfl⟩
          go_wp2_with fail
          refine TW.out.mono ?_
          rintro e w4 ⟨A4, c4, rfl, hown4, hx4⟩
          rw [HPL.out] at hown4 ⊢
          have hg4 : wr.grownBy w4 none := ⟨hx4.os, hx4.tape, hx4.output, hx4.size, fun k hk _ => hx4.block k hk⟩
          obtain ⟨vs, hPv⟩ := HP.out.open_ hg4 (fun k hk => by cases hk)
          have hov := hPv.own
          have hsz4 : wr.heap.size ≤ w4.heap.size := hx4.size
          have hszw : w.heap.size ≤ wr.heap.size := HX.out.size
          have HO4 := Lib.hid hown4; have HPV := Lib.hid hPv; have HX4 := Lib.hid hx4
          clear hown4 hPv hx4 hg4
          go_wp2_with (first | (at_builtin; refine app_bb _ rfl (.tmp 35) (.tmp 45) rfl w.heap.size rfl (hov.alloc _) rfl (m := 1) (news := [.slice A4 N c4]) rfl (rd_new _ _ _) (fun u hu => by rw [List.mem_singleton.1 hu]; rfl) (by omega) (by simp; omega) ?_; intro B5 cb5 w5 hown5 hgrow5 _) | fail)
          go_roundw
          case rel =>
            have e1 := parse_frame HH2.out
            have h1 := HP1.out; have h2 := HP2.out
            rw [e1, HRE.out] at h1 h2
            have hsn : PL w5 w.heap.size B5 (m + 1) cb5 (pss ++ [payF (xs.drop k)]) := HPV.out.snoc (by rw [HPL.out]; exact HO4.out) (by rw [HPL.out]; omega) hszw hsz4 (World.grownBy_alloc _ _ _) (by rw [HPL.out]; exact hown5) hgrow5
            exact ⟨kN, m + 1, cb5, B5, pss ++ [payF (xs.drop k)], rfl, rfl, by have := HKN.out; have := HK4.out; have := HNK.out; have := HN5.out; have := HF3.out; have := H4.out; omega, by have := HKN.out; have := HK4.out; omega, hsn, ((HX.out.trans HX4.out).alloc _).grown hgrow5 (own_ge hov), by rw [← h1]; simp, h2⟩
          case measure => simp [intOf]; have := HKN.out; have := HK4.out; have := HNK.out; have := HN5.out; have := HF3.out; have := H4.out; omega
end

section
open Go.RowKit
set_option maxHeartbeats 1000000 in
set_option maxRecDepth 100000 in
theorem read_goodP (w : World) (A0 : Option Addr) (n c0 g : Nat) (t : TypeId) (cs : Option Addr → Nat → Array Value) (ys xs : List Nat) (hl : ys.length = n) (hn : n ≤ 4096) (hnc : n ≤ c0) (hr : Rd w A0 (vals .u8 ys)) (hg : g < w.heap.size) (S : Nat) (hSw : S ≤ w.heap.size) (hA0 : ys ≠ [] → ∀ a, A0 = some a → a.block < S)
    (HC0 : ∀ W r, IsWs W r S ys → w.heap.size ≤ r → W.heap[g]? = w.heap[g]? → w.heap.size ≤ W.heap.size → Calls Tryz.prog 113 #[.pointer (some ⟨r, 0, none⟩), .pointer (some ⟨g, 0, none⟩)] W (ByR t cs xs [] r S g W)) :
    Calls Tryz.prog 112 #[.slice A0 n c0, .func (.func 113) #[] #[.pointer (some ⟨g, 0, none⟩)]] w fun e w' => ∃ A c, e = .returned (.int .i64 0) ∧ w.grownBy w' (some g) ∧ w'.heap[g]? = some (.cells (cs A c) t (0, 0)) ∧ w'.ownsRow w.heap.size 5 1 (.slice A xs.length c) xs.length (vals .u8 xs) := by
  have hmf : ∀ (fn : Fn) (first cap : Array Value) (w : World), (Instr.makeFunc fn first cap).run Tryz.prog w = .ok (.func fn first cap) w := fun _ _ _ _ => rfl
  have HC := Lib.hid HC0; clear HC0
  have hws : ∀ o o' : Obj, Rd ((w.alloc o).alloc o') A0 (vals .u8 ys) := fun o o' => (hr.alloc o).alloc o'
  have hlt : ∀ a, A0 = some a → ys ≠ [] → a.block < S := fun a ha hne => hA0 hne a ha
  have Hws := Lib.hid hws; have Hlt := Lib.hid hlt; have Hl := Lib.hid hl
  have Hg := Lib.hid (fun o o' : Obj => (blk_far2 w o o' g hg)); clear hws hlt hl hr hA0
  go_enter_defers Tryz.func112, Tryz.ntmps112
  go_wp2_with fail
  obtain ⟨W, hW⟩ : ∃ W, (w.alloc (.cells #[.int .i64 0] 29)).alloc (.cells #[.slice A0 n c0] 292) = W := ⟨_, rfl⟩
  have hsW : w.heap.size + 2 = W.heap.size := by rw [← hW]; simp
  have hIW : IsWs W (w.heap.size + 1) S ys := by
    rw [← hW]
    refine ⟨A0, c0, ?_, by rw [Hl.out]; exact hnc, Hws.out _ _, fun hne a ha => ?_⟩
    · rw [Hl.out]; exact blk_newk _ _ (by simp)
    · have := Hlt.out a ha hne; exact ⟨by omega, this⟩
  have hEW : W.heap[w.heap.size]? = some (.cells #[.int .i64 0] 29 (0, 0)) := by rw [← hW]; exact blk_past (blk_new w _) _
  have hgW : W.heap[g]? = w.heap[g]? := by rw [← hW]; exact Hg.out _ _
  have hGW : Ext w W := by rw [← hW]; exact ((Ext.refl w).alloc _).alloc _
  have C := Lib.hid (HC.out W (w.heap.size + 1) hIW (by omega) hgW (by omega))
  have HE := Lib.hid hEW; have HGW := Lib.hid hGW
  rw [hW]
  clear hW hIW hEW hgW hGW HC Hws Hg
  refine C.out.mono ?_
  rintro e w2 ⟨A, c, wm, rfl, hg1, hg2, hcs, ho, hS⟩
  obtain ⟨A2, c2, hw2, _, _, _⟩ := hS
  have h0 : w2.cell? ⟨w.heap.size + 1, 0, none⟩ = some (.slice A2 0 c2) := blk_cell hw2 0
  have HE2 := Lib.hid (blk_grown (blk_grown HE.out hg1 (by omega)) hg2 (by omega))
  have HG2 := Lib.hid (grown_new2 HGW.out hg1 hg2 (by omega))
  have Hcs := Lib.hid hcs; have Ho := Lib.hid ho
  have hs2 : W.heap.size ≤ w2.heap.size := Nat.le_trans hg1.size hg2.size
  clear hg1 hg2 hcs ho hw2 C HE HGW
  go_wp2_with fail
  refine (must_ok _ _).mono ?_
  rintro e w' ⟨rfl, rfl⟩
  have e0 := blk_cell HE2.out 0; have f0 := blk_frozen HE2.out 0
  go_wp2_with fail
  refine leaves_cons (f := 162) (args := #[.pointer (some ⟨w.heap.size, 0, none⟩)]) (by simp) (by simp [go_sem]) ?_
  refine (rundo_idle _ _).mono ?_
  rintro e u' w'' ⟨rfl, rfl, rfl⟩
  have hG := grown_set w2 w.heap.size 0 (.int .i64 0)
  have hoo : w2.ownsRow (w.heap.size + 1) 5 1 (.slice A xs.length c) xs.length (vals .u8 xs) := own_base Ho.out (by omega)
  exact ⟨_, res_errno rfl (blk_set HE2.out 0 _), A, c, rfl, grown_setNew HG2.out (Nat.le_refl _) 0 _, blk_grown' Hcs.out hG (by omega), own_base (hoo.kept hG (own_ne hoo (by omega))) (by omega)⟩
end

section
open Go.RowKit

theorem wnum_word (w : World) (r S v : Nat) (rest : List Nat) (hv : v ≤ 4611686018427387903) (hb : ∀ x ∈ rest, x < 256) (h : IsWs w r S (wordB v 8 ++ rest)) :
    Calls Tryz.prog 116 #[.pointer (some ⟨r, 0, none⟩)] w fun e w' => e = .returned (.int .i64 (v : Int)) ∧ IsWs w' r S rest ∧ w.grownBy w' (some r) := by
  have hw8 : (wordB v 8 ++ rest).take 8 = wordB v 8 := List.take_left' (wordB_len v 8)
  have hd8 : (wordB v 8 ++ rest).drop 8 = rest := List.drop_left' (wordB_len v 8)
  have hn8 : numB (wordB v 8) = v := by rw [numB_wordB]; exact Nat.mod_eq_of_lt (Nat.lt_of_le_of_lt hv (by decide))
  refine (wnumber_any w r S _ (fun x hx => ?_) h).mono ?_
  · rcases List.mem_append.1 hx with hx | hx
    · exact wordB_lt _ _ x hx
    · exact hb x hx
  · rintro e w' ⟨hg, _, hh⟩
    rw [hw8, hd8, hn8] at hh
    rcases hh with ⟨_, _, he, hS⟩ | ⟨hno, _⟩
    · exact ⟨he, hS, hg⟩
    · exact absurd ⟨by rw [List.length_append, wordB_len]; omega, hv⟩ hno
theorem drew_cell' {w : World} {p : Addr} {v : Value} (h : w.cell? p = some v) : w.drew.cell? p = some v := h
theorem grown6c (w : World) (g : Nat) (a b c d x y : Value) : w.grownBy ((((((w.setCell ⟨g, 0, none⟩ a).setCell ⟨g, 1, none⟩ b).setCell ⟨g, 2, none⟩ c).setCell ⟨g, 3, none⟩ d).setCell ⟨g, 4, none⟩ x).setCell ⟨g, 5, none⟩ y) (some g) :=
  grown_setCell (grown_setCell (grown_setCell (grown_setCell (grown_setCell (grown_set w g 0 a) 1 b) 2 c) 3 d) 4 x) 5 y
theorem cell6 {w : World} {p : Addr} {v : Value} {g : Nat} {a b c d x y : Value} (h : w.cell? p = some v) (hne : p.block ≠ g) : ((((((w.setCell ⟨g, 0, none⟩ a).setCell ⟨g, 1, none⟩ b).setCell ⟨g, 2, none⟩ c).setCell ⟨g, 3, none⟩ d).setCell ⟨g, 4, none⟩ x).setCell ⟨g, 5, none⟩ y).cell? p = some v := by
  have h1 := (grown6c w g a b c d x y).block p.block (World.block_lt_of_cell? w p h) (fun e => hne (by injection e))
  exact (World.cell?_of_block h1).trans h
theorem row6c {w : World} {g : Nat} {a0 b0 c0 d0 x0 y0 : Value} {t : TypeId} (h : w.heap[g]? = some (.cells #[a0, b0, c0, d0, x0, y0] t (0, 0))) (a b c d x y : Value) : ((((((w.setCell ⟨g, 0, none⟩ a).setCell ⟨g, 1, none⟩ b).setCell ⟨g, 2, none⟩ c).setCell ⟨g, 3, none⟩ d).setCell ⟨g, 4, none⟩ x).setCell ⟨g, 5, none⟩ y).heap[g]? = some (.cells #[a, b, c, d, x, y] t (0, 0)) :=
  blk_set (blk_set (blk_set (blk_set (blk_set (blk_set h 0 a) 1 b) 2 c) 3 d) 4 x) 5 y
abbrev repZc : Array Value := #[.int .i64 0, .bool false, .int .i64 0, .int .i64 0, .int .i64 0, .int .i64 0]
set_option maxHeartbeats 4000000 in
set_option maxRecDepth 100000 in
theorem byRep (w : World) (r S g e l t s n : Nat) (gb : Bool) (_hS : S ≤ w.heap.size) (he : e ≤ 16) (hl : l ≤ 4611686018427387903) (ht : t ≤ 4611686018427387903) (hs : s ≤ 4611686018427387903) (hn : n ≤ 4611686018427387903)
    (rest : List Nat) (hrb : ∀ x ∈ rest, x < 256) (h : IsWs w r S (repB e gb [l, t, s, n] ++ rest)) (hg : S ≤ g) (_hgw : g < w.heap.size) (hgr : g ≠ r) (hc : w.heap[g]? = some (.cells repZc 39 (0, 0))) :
    Calls Tryz.prog 113 #[.pointer (some ⟨r, 0, none⟩), .pointer (some ⟨g, 0, none⟩)] w (ByR 39 (fun _ _ => #[.int .i64 (e : Int), .bool gb, .int .i64 (l : Int), .int .i64 (t : Int), .int .i64 (s : Int), .int .i64 (n : Int)]) [] rest r S g w) := by
  have e1 : repB e gb [l, t, s, n] ++ rest = e :: oneIf gb :: (wordB l 8 ++ (wordB t 8 ++ (wordB s 8 ++ (wordB n 8 ++ rest)))) := by simp [repB, words]
  rw [e1] at h
  have H := Lib.hid h; have Hc := Lib.hid hc
  obtain ⟨x1, hx1, hx1'⟩ : ∃ x1 : Nat, x1 = oneIf gb ∧ x1 ≤ 1 := ⟨_, rfl, by unfold oneIf; split <;> omega⟩
  rw [← hx1] at H
  have hbq : ((x1 : Int) == 1) = gb := by rw [hx1]; cases gb <;> rfl
  have Hbq := Lib.hid hbq
  clear h hc e1 hx1 hbq
  have b4 : ∀ x ∈ rest, x < 256 := hrb
  have b3 : ∀ x ∈ wordB n 8 ++ rest, x < 256 := fun x hx => by
    rcases List.mem_append.1 hx with hx | hx
    · exact wordB_lt _ _ x hx
    · exact b4 x hx
  have b2 : ∀ x ∈ wordB s 8 ++ (wordB n 8 ++ rest), x < 256 := fun x hx => by
    rcases List.mem_append.1 hx with hx | hx
    · exact wordB_lt _ _ x hx
    · exact b3 x hx
  have b1 : ∀ x ∈ wordB t 8 ++ (wordB s 8 ++ (wordB n 8 ++ rest)), x < 256 := fun x hx => by
    rcases List.mem_append.1 hx with hx | hx
    · exact wordB_lt _ _ x hx
    · exact b2 x hx
  have B1 := Lib.hid b1; have B2 := Lib.hid b2; have B3 := Lib.hid b3; have B4 := Lib.hid b4; clear b1 b2 b3 b4
  go_enter Tryz.func113, Tryz.ntmps113
  go_wp2_with fail
  refine (wtake_ok _ r S 2 _ H.out (by simp)).mono ?_
  rintro e' w2 ⟨A2, c2, rfl, hc2, hR2, hS2, hg2, hz2, hbl2⟩
  obtain ⟨b2, off2, rfl, hcc⟩ := hR2 (by simp [vals])
  have h0 : w2.cell? ⟨b2, off2, none⟩ = some (.int .u8 (e : Int)) := hcc 0 _ rfl
  have h1 : w2.cell? ⟨b2, off2 + 1, none⟩ = some (.int .u8 (x1 : Int)) := hcc 1 _ rfl
  obtain ⟨hbr, hbS⟩ := hbl2 (by simp) _ rfl
  have hbr : b2 ≠ r := hbr
  have hbg : b2 ≠ g := by have : b2 < S := hbS; omega
  have HS2 := Lib.hid (show IsWs w2 r S (wordB l 8 ++ (wordB t 8 ++ (wordB s 8 ++ (wordB n 8 ++ rest)))) from hS2)
  have HG2 := Lib.hid hg2
  have K2 := Lib.hid (blk_grown Hc.out hg2 hgr)
  have hw : IntKind.i64.wrap (e : Int) = (e : Int) := by rw [IntKind.wrap_i64]; omega
  have hd1 : decide ((e : Int) ≤ 16) = true := by simp; omega
  have hd2 : decide ((x1 : Int) ≤ 1) = true := by simp; omega
  clear hcc hR2 hS2 hg2 hbl2 H Hc
  go_wp2_with fail
  refine (must_ok _ _).mono ?_
  rintro e' w' ⟨rfl, rfl⟩
  have hbq := Hbq.out
  have far : ∀ (a b : World) (o : Nat) (v : Value), a.grownBy b (some r) → a.cell? ⟨b2, o, none⟩ = some v → b.cell? ⟨b2, o, none⟩ = some v := fun a b o v hG hv => (hG.cell_far ⟨b2, o, none⟩ (World.block_lt_of_cell? a _ hv) (fun q => hbr (by injection q))).trans hv
  have Far := Lib.hid far; clear far
  have C1 := Lib.hid (wnum_word w2.drew r S l _ hl B1.out HS2.out)
  have h0d : w2.drew.cell? ⟨b2, off2, none⟩ = some (.int .u8 (e : Int)) := h0
  have h1d : w2.drew.cell? ⟨b2, off2 + 1, none⟩ = some (.int .u8 (x1 : Int)) := h1
  have H0d := Lib.hid h0d; have H1d := Lib.hid h1d; clear h0d h1d
  go_upto_region 2 with fail
  go_region_held3 (fun w' => w'.cell? ⟨b2, off2, none⟩ = some (.int .u8 (e : Int)) ∧ w'.cell? ⟨b2, off2 + 1, none⟩ = some (.int .u8 (x1 : Int)))
    (with_reducible (first | exact ⟨H0d.out, H1d.out⟩ | exact ⟨a0, a1⟩ | exact ⟨c0, c1⟩ | exact ⟨d0, d1⟩ | exact ⟨f0, f1⟩ | exact ⟨cell6 f0 hbg, cell6 f1 hbg⟩ | exact ⟨drew_cell' (cell6 f0 hbg), drew_cell' (cell6 f1 hbg)⟩))
    (first
      | (go_at_call 116; (with_reducible refine C1.out.mono ?_); rintro e1 v1 ⟨rfl, hs1, hg1⟩; have a0 := Far.out _ _ _ _ hg1 H0d.out; have a1 := Far.out _ _ _ _ hg1 H1d.out; have HS1 := Lib.hid hs1; have HG1 := Lib.hid hg1; clear hs1 hg1)
      | (go_at_call 116; (with_reducible refine (wnum_word v1 r S t _ ht B2.out HS1.out).mono ?_); rintro e2 v2 ⟨rfl, hs2, hg2⟩; have c0 := Far.out _ _ _ _ hg2 a0; have c1 := Far.out _ _ _ _ hg2 a1; have HSS2 := Lib.hid hs2; have HGG2 := Lib.hid hg2; clear hs2 hg2)
      | (go_at_call 116; (with_reducible refine (wnum_word v2 r S s _ hs B3.out HSS2.out).mono ?_); rintro e3 v3 ⟨rfl, hs3, hg3⟩; have d0 := Far.out _ _ _ _ hg3 c0; have d1 := Far.out _ _ _ _ hg3 c1; have HS3 := Lib.hid hs3; have HG3 := Lib.hid hg3; clear hs3 hg3)
      | (go_at_call 116; (with_reducible refine (wnum_word v3 r S n _ hn B4.out HS3.out).mono ?_); rintro e4 v4 ⟨rfl, hs4, hg4⟩; have f0 := Far.out _ _ _ _ hg4 d0; have f1 := Far.out _ _ _ _ hg4 d1; have HS4 := Lib.hid hs4; have HG4 := Lib.hid hg4; have hG := World.grown_trans (World.grown_trans (World.grown_trans (grown_undrew HG1.out) HGG2.out) HG3.out) hg4; have HGa := Lib.hid hG; have KC := Lib.hid (blk_grown K2.out hG hgr); have k0 := blk_cell KC.out 0; have k1 := blk_cell KC.out 1; have k2 := blk_cell KC.out 2; have k3 := blk_cell KC.out 3; have k4 := blk_cell KC.out 4; have k5 := blk_cell KC.out 5; have m0 := blk_frozen KC.out 0; have m1 := blk_frozen KC.out 1; have m2 := blk_frozen KC.out 2; have m3 := blk_frozen KC.out 3; have m4 := blk_frozen KC.out 4; have m5 := blk_frozen KC.out 5; clear hs4 hg4 hG))
  all_goals
    go_wp2_with fail
    go_end0
    have hz : v4.ownsRow w.heap.size 5 1 (.slice none 0 0) 0 (vals .u8 []) := World.ownsRow_nil _ _ _ _
    exact ⟨none, 0, v4, rfl, World.grown_trans HG2.out HGa.out, grown6c _ _ _ _ _ _ _ _, row6c KC.out _ _ _ _ _ _, World.ownsRow_nil _ _ _ _, HS4.out.grown (grown6c _ _ _ _ _ _ _ _) (fun k hk => by injection hk with hk; omega)⟩
end

section
open Go.RowKit

theorem ret_rep2 {fn : Func} (h : fn.results = #[.cell 2 39, .tmp 3]) {tmps : Array Value} {w : World} {g : Nat} {a b c d e f : Value} {t : TypeId} {fr : Nat × Nat} (hp : tmps.getD 2 undef = .pointer (some ⟨g, 0, none⟩)) (hg : w.heap[g]? = some (.cells #[a, b, c, d, e, f] t fr)) :
    (results fn tmps).run Tryz.prog w = .ok (.tuple #[.agg #[a, b, c, d, e, f], tmps.getD 3 undef]) w :=
  results_row_tmp h tmps w g t #[a, b, c, d, e, f] fr _ hp hg Tryz.underlying39 (by rfl) (by kernel_rfl)
theorem ext_row6 {w w2 : World} {g : Nat} (h : Ext w w2) (hg : w.heap.size ≤ g) (a b c d x y : Value) : Ext w ((((((w2.setCell ⟨g, 0, none⟩ a).setCell ⟨g, 1, none⟩ b).setCell ⟨g, 2, none⟩ c).setCell ⟨g, 3, none⟩ d).setCell ⟨g, 4, none⟩ x).setCell ⟨g, 5, none⟩ y) :=
  ext_grown h (grown6c w2 g a b c d x y) hg
set_option maxHeartbeats 1000000 in
theorem readRep_good (w : World) (A : Option Addr) (n c : Nat) (ys : List Nat) (e l t s m : Nat) (gb : Bool) (hr : Rd w A (vals .u8 ys))
    (hC : ∀ W g, Rd W A (vals .u8 ys) → w.heap.size ≤ W.heap.size → w.heap.size ≤ g → g < W.heap.size → W.heap[g]? = some (.cells repZc 39 (0, 0)) → Calls Tryz.prog 112 #[.slice A n c, .func (.func 113) #[] #[.pointer (some ⟨g, 0, none⟩)]] W fun x w' => x = .returned (.int .i64 0) ∧ W.grownBy w' (some g) ∧ w'.heap[g]? = some (.cells #[.int .i64 (e : Int), .bool gb, .int .i64 (l : Int), .int .i64 (t : Int), .int .i64 (s : Int), .int .i64 (m : Int)] 39 (0, 0))) :
    Calls Tryz.prog 66 #[.slice A n c] w (RetE (.tuple #[wrepV (e : Int) gb (l : Int) (t : Int) (s : Int) (m : Int), .int .i64 0]) w) := by
  have hmf : ∀ (fn : Fn) (first cap : Array Value) (w : World), (Instr.makeFunc fn first cap).run Tryz.prog w = .ok (.func fn first cap) w := fun _ _ _ _ => rfl
  have HC := Lib.hid hC; have Hr := Lib.hid hr; clear hC hr
  go_enter Tryz.func66, Tryz.ntmps66
  go_wp2_with fail
  refine (HC.out _ (w.heap.size + 1) ((Hr.out.alloc _).alloc _) (by simp; omega) (by omega) (by simp) (blk_newk _ _ (by simp))).mono ?_
  rintro x w2 ⟨rfl, hG, hc⟩
  have K := Lib.hid (blk_grown (blk_past (blk_new w (.cells repZc 39 (0, 0))) _) hG (by omega))
  have hx := ext_grown (((Ext.refl w).alloc _).alloc _) hG (by omega)
  have KC := Lib.hid hc
  clear hG hc
  have k0 := blk_cell K.out 0; have k1 := blk_cell K.out 1; have k2 := blk_cell K.out 2; have k3 := blk_cell K.out 3; have k4 := blk_cell K.out 4; have k5 := blk_cell K.out 5
  have f0 := blk_frozen K.out 0; have f1 := blk_frozen K.out 1; have f2 := blk_frozen K.out 2; have f3 := blk_frozen K.out 3; have f4 := blk_frozen K.out 4; have f5 := blk_frozen K.out 5
  have c0 := blk_cell KC.out 0; have c1 := blk_cell KC.out 1; have c2 := blk_cell KC.out 2; have c3 := blk_cell KC.out 3; have c4 := blk_cell KC.out 4; have c5 := blk_cell KC.out 5
  go_wp2_with fail
  refine bodyPost_ret (ret_rep2 rfl rfl (row6c K.out _ _ _ _ _ _)) rfl ?_
  exact ⟨rfl, ext_row6 hx (Nat.le_refl _) _ _ _ _ _ _⟩
theorem readRep_ok (w : World) (A : Option Addr) (n c e l t s m : Nat) (gb : Bool) (hn : n = 34) (hnc : n ≤ c) (he : e ≤ 16) (hl : l ≤ 4611686018427387903) (ht : t ≤ 4611686018427387903) (hs : s ≤ 4611686018427387903) (hm : m ≤ 4611686018427387903) (hr : Rd w A (vals .u8 (repB e gb [l, t, s, m]))) :
    Calls Tryz.prog 66 #[.slice A n c] w (RetE (.tuple #[wrepV (e : Int) gb (l : Int) (t : Int) (s : Int) (m : Int), .int .i64 0]) w) := by
  have hlen : (repB e gb [l, t, s, m]).length = n := by rw [hn]; exact repB_len e gb [l, t, s, m]
  refine readRep_good w A n c _ e l t s m gb hr fun W g hR hs1 hs2 hs3 hc => ?_
  refine (read_goodP W A n c g 39 (fun _ _ => #[.int .i64 (e : Int), .bool gb, .int .i64 (l : Int), .int .i64 (t : Int), .int .i64 (s : Int), .int .i64 (m : Int)]) _ [] hlen (by omega) hnc hR hs3 w.heap.size hs1 (rd_blk hr) fun W' r hI hrr hgW hss => byRep W' r w.heap.size g e l t s m gb (by omega) he hl ht hs hm [] (by simp) (by rw [List.append_nil]; exact hI) hs2 (by omega) (by omega) (hgW.trans hc)).mono ?_
  rintro x w' ⟨_, _, he, hg, hcs, _⟩
  exact ⟨he, hg, hcs⟩
end

section
open Go.RowKit

theorem parse_frs : ∀ {rs : List KRep}, (∀ r ∈ rs, RepOk r) → parse (frsOf rs) = (rs.map repBy, [], false)
  | [], _ => parse_nil
  | r :: rs, h => by
    have h34 := rep_len (repIs_by (h r List.mem_cons_self))
    have ih := parse_frs (fun q hq => h q (List.mem_cons_of_mem _ hq))
    have e : frsOf (r :: rs) = len4 (repBy r).length ++ (repBy r ++ frsOf rs) := by
      unfold frsOf
      rw [List.flatMap_cons, List.append_assoc]
    rw [e, parse_enc (repBy r) (frsOf rs) (by omega) (by omega), ih]
    rfl
theorem frs_lt {rs : List KRep} (h : ∀ r ∈ rs, RepOk r) : ∀ x ∈ frsOf rs, x < 256 := fun x hx => by
  obtain ⟨r, hr, hx⟩ := List.mem_flatMap.1 hx
  rcases List.mem_append.1 hx with hx | hx
  · exact len4_lt _ x hx
  · exact rep_lt (repIs_by (h r hr)) x hx
def repsV (rs : List KRep) : List Value := rs.flatMap fun r => (repV r).toList
theorem repsV_snoc (rs : List KRep) (r : KRep) : repsV (rs ++ [r]) = repsV rs ++ (repV r).toList := by
  unfold repsV
  rw [List.flatMap_append]
  simp
theorem rp_info : (Tryz.prog.info? 39).map (fun i => (i.zero, i.size, i.bytes)) = some (some (.agg #[.int .i64 0, .bool false, .int .i64 0, .int .i64 0, .int .i64 0, .int .i64 0]), 6, 48) := by kernel_rfl
theorem app_rp {ops : Array Oper} {rest : List Oper} {o : Oper} {a : Act} {Q : Exit → Act → World → Prop} (w : World) (hgd : o.guard = none) (s x : Operand)
    (ho : o.op = .call { callee := .builtin .append, args := #[s, x], argTypes := #[97, 97] })
    (base : Nat) {B : Option Addr} {n cb : Nat} {xs : List Value} (hs : a.eval s = .slice B n cb) (hown : w.ownsRow base 39 6 (.slice B n cb) n xs)
    {A : Option Addr} {c : Nat} {r : KRep} (hx : a.eval x = .slice A 1 c) (hr : Rd w A (repV r).toList) (hb : n ≤ 100000) (hbase : base ≤ w.heap.size)
    (h : ∀ B' cb' w', w'.ownsRow base 39 6 (.slice B' (n + 1) cb') (n + 1) (xs ++ (repV r).toList) → w.grownBy w' (Value.slice B n cb).ownBlock →
      ((Value.slice B' (n + 1) cb').ownBlock = (Value.slice B n cb).ownBlock ∨ (Value.slice B' (n + 1) cb').ownBlock = some w.heap.size) → wpList Tryz.prog ops Q rest (a.put o.dst (.slice B' (n + 1) cb')) w') :
    wpList Tryz.prog ops Q (o :: rest) a w := by
  obtain ⟨i0, hi, hz0, hz1, hz2⟩ := info_parts rp_info
  exact wpList_append_rd w hgd s x 97 ho base 39 Tryz.underlying97 hi hz0 hz1 hz2 rfl (by decide) hs hown hx (m := 1) (news := (repV r).toList) rfl hr (by intro v hv; simp [repV] at hv; rcases hv with rfl | rfl | rfl | rfl | rfl | rfl <;> rfl) (by unfold maxLen; omega) (by omega) hbase h
def RepsR (rs : List KRep) (w : World) (e : Ending) (w' : World) : Prop := ∃ B c, e = .returned (.tuple #[.slice B rs.length c, .bool true]) ∧ w'.ownsRow w.heap.size 39 6 (.slice B rs.length c) rs.length (repsV rs) ∧ Ext w w'
set_option maxRecDepth 100000 in
set_option maxHeartbeats 2000000 in
theorem replies_ok (w : World) (base gd : Nat) (g : CoK) (N n : Nat) (a : DSt) (F : Nat → Prop) (rs : List KRep) (h : DaeIn w base gd g N a F) (hn : n < 63) (hwr : (a.ls n).wr = frsOf rs) (hrs : ∀ r ∈ rs, RepOk r) (hl : rs.length ≤ 1000) :
    Calls Tryz.prog 24 #[ptrV gd, .int .i64 (n : Int)] w (RepsR rs w) := by
  obtain ⟨xs, Hxs⟩ : ∃ xs, Hid (frsOf rs = xs) := ⟨_, rfl⟩
  have hpar := parse_frs hrs
  have hxl := frsOf_len hrs
  have hxb := frs_lt hrs
  rw [Hxs.out] at hwr hpar hxl hxb
  obtain ⟨m, Hm⟩ : ∃ m, Hid (xs.length = m) := ⟨_, rfl⟩
  have hm : m ≤ 100000 := by rw [← Hm.out, hxl]; omega
  have OT := Lib.hid (fun u (y : Ext w u) => (h.ext y).out_ (m := m) hn (by rw [hwr]; exact Hm.out) (by omega))
  rw [hwr] at OT
  have HP := Lib.hid hpar; have HXB := Lib.hid hxb; have HRS := Lib.hid hrs
  obtain ⟨q, Hq⟩ : ∃ q, Hid (rs.length = q) := ⟨_, rfl⟩
  rw [Hq.out] at hl
  clear h hwr hpar hxl hxb hrs
  go_enter Tryz.func24, Tryz.ntmps24
  go_wp2_with fail
  refine (OT.out w (Ext.refl w)).mono ?_
  rintro e w1 ⟨A1, c1, rfl, ho1, x1⟩
  have FR := frames_any w1 A1 m c1 xs Hm.out (own_cap ho1) HXB.out (Rd.of_own ho1) (by omega)
  unfold FramesR at FR
  rw [HP.out] at FR
  dsimp only at FR
  rw [List.length_nil, Nat.sub_zero, Hm.out] at FR
  have FRh := Lib.hid FR; have X1 := Lib.hid x1
  clear FR ho1 x1
  go_wp2_with fail
  refine FRh.out.mono ?_
  rintro e w2 ⟨B, k, d, rfl, hPL, x2⟩
  have hkq : k = q := by
    have := hPL.1
    rw [List.length_map, Hq.out] at this
    exact this.symm
  subst hkq
  obtain ⟨hpl, vs, gs, hov, -, -, -, hall⟩ := hPL
  have RV := Lib.hid (rd_of_own_s hov); have HA := Lib.hid hall; have X2 := Lib.hid (X1.out.trans x2)
  clear hov hall x2 FRh hpl
  go_wp2_with fail
  refine (OT.out w2 X2.out).mono ?_
  rintro e w3 ⟨A3, c3, rfl, -, x3⟩
  have X3 := Lib.hid (X2.out.trans x3); have X23 := Lib.hid x3
  clear x3
  go_wp2_with fail
  go_loopw [9, 33] (fun v9 i wr => ∃ (j : Nat) (B2 : Option Addr) (cb : Nat), j ≤ k ∧ i = .int .i64 (j : Int) ∧ v9 = .slice B2 j cb ∧ wr.ownsRow w3.heap.size 39 6 (.slice B2 j cb) j (repsV (rs.take j)) ∧ Ext w3 wr) (fun _ i _ => k - (intOf i).toNat)
  case atStart => exact ⟨0, none, 0, Nat.zero_le _, rfl, rfl, World.ownsRow_nil _ _ _ _, Ext.refl w3⟩
  case round =>
    obtain ⟨j, B2, cb, hj, rfl, rfl, ho, hx⟩ := hrel
    have HO := Lib.hid ho; have HX := Lib.hid hx
    clear ho hx
    by_cases hlt : j < k
    · have hji : (j : Int) < (k : Int) := by omega
      have hix : (0 : Int) ≤ (j : Int) ∧ (j : Int) < (k : Int) := ⟨by omega, by omega⟩
      obtain ⟨r, hr⟩ : ∃ r, rs[j]? = some r := ⟨_, List.getElem?_eq_getElem (by rw [Hq.out]; exact hlt)⟩
      obtain ⟨hr1, ⟨hr2, hr3⟩, ⟨hr4, hr5⟩, ⟨hr6, hr7⟩, hr8, hr9⟩ := HRS.out r (List.mem_of_getElem? hr)
      obtain ⟨gq, ci, -, hvq, hoq⟩ := HA.out j (repBy r) (by rw [List.getElem?_map, hr]; rfl)
      have h34 : (repBy r).length = 34 := rep_len (repIs_by ⟨hr1, ⟨hr2, hr3⟩, ⟨hr4, hr5⟩, ⟨hr6, hr7⟩, hr8, hr9⟩)
      rw [h34] at hvq hoq
      obtain ⟨bf, of, hB, hcell⟩ := RV.out (fun e => by rw [e] at hvq; simp at hvq)
      have d0 := ext_cell (X23.out.trans HX.out) (hcell j _ hvq)
      subst hB
      have RR := Lib.hid (readRep_ok wr (some ⟨gq, 0, none⟩) 34 ci r.er r.left.toNat r.wait.toNat r.ser.toNat r.now.toNat r.granted rfl (own_cap hoq) hr1 (by omega) (by omega) (by omega) (by omega) ((Rd.of_own hoq).ext (X23.out.trans HX.out)))
      have t1 : ((r.left.toNat : Nat) : Int) = r.left := Int.toNat_of_nonneg hr2
      have t2 : ((r.wait.toNat : Nat) : Int) = r.wait := Int.toNat_of_nonneg hr4
      have t3 : ((r.ser.toNat : Nat) : Int) = r.ser := Int.toNat_of_nonneg hr6
      have t4 : ((r.now.toNat : Nat) : Int) = r.now := Int.toNat_of_nonneg hr8
      rw [t1, t2, t3, t4] at RR
      have HR := Lib.hid hr
      have hadd : IntKind.i64.wrap ((j : Int) + 1) = ((j + 1 : Nat) : Int) := by rw [IntKind.wrap_i64]; omega
      clear hr hvq hoq hcell t1 t2 t3 t4 h34
      go_wp2_with fail
      refine RR.out.mono ?_
      rintro e w5 ⟨rfl, x5⟩
      have X5 := Lib.hid x5
      clear x5 RR d0
      go_upto_region 11 with fail
      obtain ⟨W, hW⟩ : ∃ W, (w5.alloc (.cells #[.int .i64 (r.er : Int), .bool r.granted, .int .i64 r.left, .int .i64 r.wait, .int .i64 r.ser, .int .i64 r.now] 39)) = W := ⟨_, rfl⟩
      have xW : Ext w5 W := by rw [← hW]; exact (Ext.refl w5).alloc _
      have KB := Lib.hid (show W.heap[w5.heap.size]? = some (.cells #[.int .i64 (r.er : Int), .bool r.granted, .int .i64 r.left, .int .i64 r.wait, .int .i64 r.ser, .int .i64 r.now] 39 (0, 0)) by rw [← hW]; exact blk_new w5 _)
      (try rw [hW])
      clear hW
      have XW := Lib.hid (X5.out.trans xW)
      clear xW
      have e0 : W.cell? ⟨w5.heap.size, 0, none⟩ = some (.int .i64 (r.er : Int)) := blk_cell KB.out 0
      have e1 : W.cell? ⟨w5.heap.size, 1, none⟩ = some (.bool r.granted) := blk_cell KB.out 1
      have e2 : W.cell? ⟨w5.heap.size, 2, none⟩ = some (.int .i64 r.left) := blk_cell KB.out 2
      have e3 : W.cell? ⟨w5.heap.size, 3, none⟩ = some (.int .i64 r.wait) := blk_cell KB.out 3
      have e4 : W.cell? ⟨w5.heap.size, 4, none⟩ = some (.int .i64 r.ser) := blk_cell KB.out 4
      have e5 : W.cell? ⟨w5.heap.size, 5, none⟩ = some (.int .i64 r.now) := blk_cell KB.out 5
      have HW2 := Lib.hid ((XW.out.alloc (.cells #[.int .i64 (r.er : Int), .bool r.granted, .int .i64 r.left, .int .i64 r.wait, .int .i64 r.ser, .int .i64 r.now] 39 (0, 0))))
      have hsz := (HX.out.trans HW2.out).size
      have hj9 : j ≤ 100000 := by omega
      go_wp2_with (at_builtin; refine app_rp (r := r) (W.alloc (.cells #[.int .i64 (r.er : Int), .bool r.granted, .int .i64 r.left, .int .i64 r.wait, .int .i64 r.ser, .int .i64 r.now] 39 (0, 0))) rfl (.tmp 44) (.tmp 46) rfl w3.heap.size rfl (own_ext HO.out HW2.out) rfl (rd_newk W (repV r).toList _ rfl) hj9 hsz ?_; intro B6 cb6 w6 o6 g6 b6; have O6 := Lib.hid o6; have G6 := Lib.hid g6; clear o6 g6 b6)
      go_roundw
      case rel =>
        refine ⟨j + 1, B6, cb6, hlt, by go_num, rfl, ?_, (HX.out.trans HW2.out).grown G6.out (fun q e => (HO.out.lt q e).1)⟩
        rw [take_succ_of HR.out, repsV_snoc]
        exact O6.out
      case measure => simp [intOf]; omega
    · have hji : ¬ (j : Int) < (k : Int) := by omega
      obtain rfl : j = k := by omega
      go_wp2_with fail
      go_ret2
      refine ⟨B2, cb, ret_t2 (by rw [Hq.out]; rfl) rfl, ?_, X3.out.trans HX.out⟩
      have := HO.out
      rw [List.take_of_length_le (by rw [Hq.out]; exact Nat.le_refl _)] at this
      rw [Hq.out]
      exact own_base this X3.out.size
end

section
open Go.RowKit

set_option maxHeartbeats 4000000 in
set_option maxRecDepth 100000 in
theorem cellsSame_true (w : World) (A B : Option Addr) (n c d : Nat) (l : List PCell) (ks ks' : List CRef) (hl : l.length = n) (hn : n ≤ 9223372036854775807) (hb : ∀ t ∈ l, t.key.length ≤ 5000 ∧ (∀ x ∈ t.key, x < 256) ∧ t.held.length ≤ 5000) (hA : CellsRd w A l ks) (hB : CellsRd w B l ks') :
    Calls Tryz.prog 34 #[.slice A n c, .slice B n d] w (RetQ (.bool true) w) := by
  have Hl := Lib.hid hl; have HA := Lib.hid hA; have HB := Lib.hid hB; have Hb := Lib.hid hb; clear hl hA hB hb
  go_enter Tryz.func34, Tryz.ntmps34
  go_wp2_with fail
  go_loopw [13] (fun i wr => ∃ k q : Nat, k ≤ n ∧ i = .int .i64 k ∧ wr = w.drewN q) (fun i _ => n - (intOf i).toNat)
  case atStart => exact ⟨0, 0, Nat.zero_le _, rfl, rfl⟩
  case round =>
    obtain ⟨k, q, hk, rfl, rfl⟩ := hrel
    by_cases hlt : k < n
    · obtain ⟨t, ht⟩ : ∃ t, l[k]? = some t := ⟨_, List.getElem?_eq_getElem (by rw [Hl.out]; exact hlt)⟩
      obtain ⟨hb1, hb2, hb3⟩ := Hb.out t (List.mem_of_getElem? ht)
      obtain ⟨b, off, r, hA, -, a0, a1, a2, a3, -, hr, -, hh⟩ := HA.out.at_ ht
      obtain ⟨b', off', r', hB, -, b0, b1, b2, b3, -, hr', -, hh'⟩ := HB.out.at_ ht
      obtain ⟨p, key, v, hd⟩ := t
      obtain ⟨K, kc, H, hc⟩ := r
      obtain ⟨K', kc', H', hc'⟩ := r'
      dsimp only at hb1 hb2 hb3 a0 a1 a2 a3 b0 b1 b2 b3 hr hr' hh hh'
      have C := Lib.hid (fun q => same_any K K' key.length kc key.length kc' key key (w.drewN q) rfl rfl (by omega) hb2 hb2 hr hr')
      rw [show same key key = true from decide_eq_true rfl] at C
      have I := Lib.hid (fun q => sameI_any H H' hd.length hc hd.length hc' hd hd (w.drewN q) rfl rfl (by omega) hh hh')
      rw [show sameI hd hd = true from decide_eq_true rfl] at I
      clear hr hr' hh hh' ht hb1 hb2 hb3
      subst hA hB
      go_wp2_with fail
      go_quiet (first | (go_at_call 64; first | exact quiet_add_q (C.out _) | exact quiet_q (C.out _)) | (go_at_call 76; first | exact quiet_add_q (I.out _) | exact quiet_q (I.out _)))
      go_wp2_with fail
      go_roundw
      case rel => exact ⟨k + 1, _, by omega, by go_num, by first | rfl | (simp only [drewN_add]; rfl)⟩
      case measure => simp [intOf]; omega
    · go_wp2_with fail
      go_ret
      exact ⟨rfl, q, rfl⟩
end

section
open Go.RowKit

theorem flat_get {α β : Type} (f : α → List β) (n : Nat) : ∀ (L : List α), (∀ r ∈ L, (f r).length = n) → ∀ i r, L[i]? = some r → ∀ j, j < n → (L.flatMap f)[i * n + j]? = (f r)[j]?
  | [], _, i, r, h, _, _ => by simp at h
  | a :: L, hn, i, r, h, j, hj => by
    rw [List.flatMap_cons]
    have ha := hn a (by simp)
    cases i with
    | zero =>
      simp at h
      subst h
      rw [Nat.zero_mul, Nat.zero_add, List.getElem?_append_left (by omega)]
    | succ i =>
      rw [List.getElem?_append_right (by rw [Nat.succ_mul]; omega), show (i + 1) * n + j - (f a).length = i * n + j by rw [Nat.succ_mul]; omega]
      exact flat_get f n L (fun r hr => hn r (by simp [hr])) i r (by simpa using h) j hj
end
end Go.Proofs.YtloidkmphigbdaaGreat
