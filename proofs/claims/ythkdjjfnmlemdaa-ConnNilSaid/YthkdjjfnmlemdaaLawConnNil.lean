/- ConnNil answers true. -/
import Derived.Test.YthkdjjfnmlemdaaBConnNil6
import Derived.Test.YthkdjjfnmlemdaaBConnNil7
import Derived.BigQuiet
namespace Go.Proofs.Ythkdjjfnmlemdaa
open Go.RowKit

/-- the document's Reply and the program's, of one reply -/
theorem docRep_any (e : Int) (g : Bool) (l t s n : Int) {q : Int} {B : List Nat} (h : RepIs e g [l, t, s, n] q B) (w : World) : Calls Try.prog 43 #[.agg #[.int .i64 e, .bool g, .int .i64 l, .int .i64 t, .int .i64 s, .int .i64 n]] w (RetBE B q w) := by
  obtain ⟨q', B', hI, -, hC⟩ := rep_cases e g l t s n
  have h' : RepIs e g [l, t, s, n] q' B' := by
    rcases hI with ⟨h1, h2, h3⟩ | ⟨h1, e', l', t', s', n', rfl, rfl, rfl, rfl, rfl, k1, k2, k3, k4, k5, k6⟩
    · refine .inl ⟨h1, h2, fun hh => h3 ⟨hh.1, hh.2.1, hh.2.2 l (by simp), hh.2.2 t (by simp), hh.2.2 s (by simp), hh.2.2 n (by simp)⟩⟩
    · refine .inr ⟨h1, by omega, by omega, [l', t', s', n'], ⟨rfl, rfl, fun x hx => ?_⟩, by rw [k6]; rfl⟩
      simp at hx
      omega
  obtain ⟨rfl, rfl⟩ := rep_one rfl h h'
  exact hC w
set_option maxHeartbeats 1000000 in
set_option maxRecDepth 100000 in
theorem dreply_nil (w : World) (e : Int) (g : Bool) (l t s n : Int) {q : Int} {B : List Nat} (h : RepIs e g [l, t, s, n] q B) :
    Calls Try.prog 91 #[.pointer none, .agg #[.int .i64 e, .bool g, .int .i64 l, .int .i64 t, .int .i64 s, .int .i64 n]] w (RetE (.int .i64 (if q = 0 then 7 else q)) w) := by
  have C := Lib.hid (fun u => docRep_any e g l t s n h u)
  have hq : q = 1 ∨ q = 0 := h.elim (fun h => .inl h.1) (fun h => .inr h.1)
  obtain ⟨v, hv⟩ : ∃ v : Int, Hid ((if q = 0 then 7 else q) = v) := ⟨_, rfl⟩
  rw [hv.out]
  clear h
  go_enter Try.func91, Try.ntmps91
  go_wp2_with fail
  refine (C.out _).mono ?_
  rintro x w1 ⟨A1, c1, rfl, o1, x1⟩
  have X1 := Lib.hid (((Ext.refl w).alloc _).trans x1)
  clear o1 x1
  rcases hq with rfl | rfl
  · go_wp2_with fail
    go_ret
    exact ⟨by rw [← hv.out]; rfl, X1.out⟩
  · go_wp2_with fail
    go_ret
    exact ⟨by rw [← hv.out]; rfl, X1.out⟩
set_option maxHeartbeats 8000000 in
set_option maxRecDepth 100000 in
theorem ccall_nil (w : World) (k : Nat) (hk : k < 256) (A : Option Addr) (n c : Nat) (xs : List Nat) (hl : xs.length = n) (hb : ∀ x ∈ xs, x < 256) (hr : Rd w A (vals .u8 xs)) (_hnc : n ≤ c) (hz : n ≤ 140737488351232) (e : Int) (g : Bool) (l t s m : Int) :
    Calls Try.prog 58 #[.pointer none, .pointer none, .agg #[.int .u8 (k : Int), .slice A n c, .int .i64 e, .bool g, .int .i64 l, .int .i64 t, .int .i64 s, .int .i64 m]] w (RetTrue w) := by
  have Hl := Lib.hid hl; have Hb := Lib.hid hb; have Hr := Lib.hid hr; clear hl hb hr
  go_enter Try.func58, Try.ntmps58
  go_upto_region 1 with fail
  obtain ⟨W, hW⟩ : ∃ W, w.alloc (.cells #[.int .u8 (k : Int), .slice A n c, .int .i64 e, .bool g, .int .i64 l, .int .i64 t, .int .i64 s, .int .i64 m] 97) = W := ⟨_, rfl⟩
  have xW : Ext w W := by rw [← hW]; exact (Ext.refl w).alloc _
  have KP := Lib.hid (show W.heap[w.heap.size]? = some (.cells #[.int .u8 (k : Int), .slice A n c, .int .i64 e, .bool g, .int .i64 l, .int .i64 t, .int .i64 s, .int .i64 m] 97 (0, 0)) by rw [← hW]; exact blk_new w _)
  rw [hW]
  clear hW
  have XW := Lib.hid xW
  have p0 : W.cell? ⟨w.heap.size, 0, none⟩ = some (.int .u8 (k : Int)) := blk_cell KP.out 0
  have p1 : W.cell? ⟨w.heap.size, 1, none⟩ = some (.slice A n c) := blk_cell KP.out 1
  by_cases h0 : k = 0
  · subst h0
    go_wp2_with fail
    refine (spare_any A n c xs W Hl.out hz (Hr.out.ext xW)).mono ?_
    rintro x w1 ⟨A1, c1, rfl, o1, x1⟩
    rw [Hl.out] at o1 ⊢
    have O1 := Lib.hid o1; have X1 := Lib.hid (XW.out.trans x1)
    have P1 := Lib.hid (blk_ext KP.out x1)
    clear o1 x1 p0 p1
    have p1 : w1.cell? ⟨w.heap.size, 1, none⟩ = some (.slice A n c) := blk_cell P1.out 1
    go_wp2_with fail
    refine (cfeed_nil w1 A1 n c1).mono ?_
    rintro x w2 ⟨rfl, rfl⟩
    have KT := Lib.hid (kept_true A1 A n (n + 3) c1 c xs w1 Hl.out rfl (own_cap O1.out) (by omega) Hb.out (Rd.of_own O1.out) (Hr.out.ext X1.out))
    go_wp2_with fail
    refine (toE_q KT.out).mono ?_
    rintro x w3 ⟨rfl, x3⟩
    obtain ⟨fb, rfl, hfb1, hfb2⟩ := own_some_s O1.out (by have := own_cap O1.out; omega)
    have BR := Lib.hid (show ByteRow w3 W.heap.size (.slice (some ⟨fb, 0, none⟩) (n + 3) c1) (n + 3) from ⟨xs ++ [165, 90, 165], fun y hy => by
      rcases List.mem_append.1 hy with hy | hy
      · exact Hb.out y hy
      · simp at hy; omega, own_ext O1.out x3⟩)
    have E3 := Lib.hid (X1.out.trans x3)
    have P3 := Lib.hid (blk_ext P1.out x3)
    have hWs : w.heap.size < W.heap.size := blk_lt KP.out
    clear x3 p1
    go_wp2_with fail
    go_loopw [44] (fun i wr => ∃ q : Nat, q ≤ n + 3 ∧ i = .int .i64 (q : Int) ∧ ByteRow wr W.heap.size (.slice (some ⟨fb, 0, none⟩) (n + 3) c1) (n + 3) ∧ GB w3 wr (· = fb)) (fun i _ => n + 3 - (intOf i).toNat)
    case atStart => exact ⟨0, Nat.zero_le _, rfl, BR.out, GB.refl _ _⟩
    case round =>
      obtain ⟨q, hq, rfl, hbr, hgb⟩ := hrel
      by_cases hlt : q < n + 3
      · obtain ⟨y, hy, dy, fy⟩ := hbr.elem hlt
        obtain ⟨z, hz9, hxz⟩ := xor_u8 y 1 hy (by omega)
        have hxz' : bits .xor .u8 (y : Int) 1 = (z : Int) := hxz
        have BN := Lib.hid (hbr.set q z hz9)
        have GN := Lib.hid (hgb.set fb q (.int .u8 (z : Int)) (.inl rfl))
        have HLT := Lib.hid hlt
        have hki : (q : Int) < (n : Int) + 3 := by omega
        clear hbr hgb hxz
        go_wp2_with fail
        go_roundw
        case rel => exact ⟨q + 1, HLT.out, by go_num, BN.out, GN.out⟩
        case measure => simp [intOf]; have := HLT.out; omega
      · obtain rfl : q = n + 3 := by omega
        have p1 : wr.cell? ⟨w.heap.size, 1, none⟩ = some (.slice A n c) := blk_cell (hgb.blk P3.out (fun e => by omega)) 1
        have ER := Lib.hid (hgb.to_ext E3.out (fun i e => by omega))
        have DF := Lib.hid (dfeed_nil wr A n c)
        clear hbr hgb
        go_wp2_with fail
        refine DF.out.mono ?_
        rintro x w4 ⟨rfl, rfl⟩
        go_wp2_with fail
        go_ret
        exact retTrue ER.out
  have z0 : ((k : Int) == 0) = false := by simp; omega
  by_cases h1 : k = 1
  · subst h1
    clear z0 h0
    go_wp2_with fail
    refine (cnext_nil W).mono ?_
    rintro x w1 ⟨rfl, x1⟩
    have X1 := Lib.hid (XW.out.trans x1)
    clear x1 p0 p1
    go_upto_region 14 with fail
    obtain ⟨W2, hW2⟩ : ∃ W2, w1.alloc (.cells #[.int .u8 0, .int .i64 0, .slice none 0 0, .int .i64 0] 63) = W2 := ⟨_, rfl⟩
    have x2 : Ext w1 W2 := by rw [← hW2]; exact (Ext.refl w1).alloc _
    have K2 := Lib.hid (show W2.heap[w1.heap.size]? = some (.cells #[.int .u8 0, .int .i64 0, .slice none 0 0, .int .i64 0] 63 (0, 0)) by rw [← hW2]; exact blk_new w1 _)
    rw [hW2]
    clear hW2
    go_wp2_with fail
    refine (dnext_nil W2).mono ?_
    rintro x w3 ⟨rfl, x3⟩
    have K3 := Lib.hid (blk_ext K2.out x3)
    have X3 := Lib.hid ((X1.out.trans x2).trans x3)
    clear x2 x3
    go_upto_region 15 with fail
    obtain ⟨W4, hW4⟩ : ∃ W4, w3.alloc (.cells #[.int .u8 0, .int .i64 0, .slice none 0 0, .int .i64 0] 63) = W4 := ⟨_, rfl⟩
    have x4 : Ext w3 W4 := by rw [← hW4]; exact (Ext.refl w3).alloc _
    have K4 := Lib.hid (show W4.heap[w3.heap.size]? = some (.cells #[.int .u8 0, .int .i64 0, .slice none 0 0, .int .i64 0] 63 (0, 0)) by rw [← hW4]; exact blk_new w3 _)
    rw [hW4]
    clear hW4
    have K3' := Lib.hid (blk_ext K3.out x4)
    have X4 := Lib.hid (X3.out.trans x4)
    clear x4
    have a0 := blk_cell K3'.out 0; have a1 := blk_cell K3'.out 1; have a2 := blk_cell K3'.out 2; have a3 := blk_cell K3'.out 3
    have b0 := blk_cell K4.out 0; have b1 := blk_cell K4.out 1; have b2 := blk_cell K4.out 2; have b3 := blk_cell K4.out 3
    have CS := Lib.hid (callSame_any W4 0 0 0 0 0 0 none none 0 0 0 0 [] [] rfl rfl (by omega) (by simp) (by simp) (Rd.nil _ _) (Rd.nil _ _))
    rw [show decide ((0 : Int) = 0 ∧ (0 : Int) = 0 ∧ ([] : List Nat) = [] ∧ (0 : Int) = 0) = true by simp] at CS
    go_wp2_with fail
    refine CS.out.mono ?_
    rintro x w5 ⟨rfl, x5⟩
    have K5 := Lib.hid (blk_ext K3'.out x5)
    have X5 := Lib.hid (X4.out.trans x5)
    clear a0 a1 a2 a3 b0 b1 b2 b3 x5
    have a2 : w5.cell? ⟨w1.heap.size, 2, none⟩ = some (.slice none 0 0) := blk_cell K5.out 2
    go_wp2_with fail
    go_loopw [86] (fun i wr => i = .int .i64 0 ∧ wr = w5) (fun _ _ => 0)
    case atStart => exact ⟨rfl, rfl⟩
    case round =>
      obtain ⟨rfl, hw5⟩ := hrel
      obtain rfl : w5 = wr := hw5.symm
      go_wp2_with fail
      go_ret
      exact retTrue X5.out
  have z1 : ((k : Int) == 1) = false := by simp; omega
  by_cases h2 : k = 2
  · subst h2
    clear z0 h0 z1 h1
    have q0 : W.cell? ⟨w.heap.size, 2, none⟩ = some (.int .i64 e) := blk_cell KP.out 2
    have q1 : W.cell? ⟨w.heap.size, 3, none⟩ = some (.bool g) := blk_cell KP.out 3
    have q2 : W.cell? ⟨w.heap.size, 4, none⟩ = some (.int .i64 l) := blk_cell KP.out 4
    have q3 : W.cell? ⟨w.heap.size, 5, none⟩ = some (.int .i64 t) := blk_cell KP.out 5
    have q4 : W.cell? ⟨w.heap.size, 6, none⟩ = some (.int .i64 s) := blk_cell KP.out 6
    have q5 : W.cell? ⟨w.heap.size, 7, none⟩ = some (.int .i64 m) := blk_cell KP.out 7
    obtain ⟨v, CR, CD⟩ : ∃ v : Int, Hid (∀ u, Calls Try.prog 52 #[.pointer none, .agg #[.int .i64 e, .bool g, .int .i64 l, .int .i64 t, .int .i64 s, .int .i64 m]] u (RetE (.int .i64 v) u)) ∧ Hid (∀ u, Calls Try.prog 91 #[.pointer none, .agg #[.int .i64 e, .bool g, .int .i64 l, .int .i64 t, .int .i64 s, .int .i64 m]] u (RetE (.int .i64 v) u)) := by
      obtain ⟨q, B, h⟩ : ∃ q B, RepIs e g [l, t, s, m] q B := by
        by_cases hok : 0 ≤ e ∧ e ≤ 16 ∧ ∀ x ∈ [l, t, s, m], okN x
        · refine ⟨0, _, .inr ⟨rfl, hok.1, hok.2.1, [l.toNat, t.toNat, s.toNat, m.toNat], ⟨rfl, ?_, fun x hx => ?_⟩, rfl⟩⟩
          · have h1 := hok.2.2 l (by simp); have h2 := hok.2.2 t (by simp); have h3 := hok.2.2 s (by simp); have h4 := hok.2.2 m (by simp)
            unfold okN at h1 h2 h3 h4
            simp only [List.map_cons, List.map_nil, List.take_succ_cons, List.take_zero]
            rw [Int.toNat_of_nonneg h1.1, Int.toNat_of_nonneg h2.1, Int.toNat_of_nonneg h3.1, Int.toNat_of_nonneg h4.1]
          · have h1 := hok.2.2 l (by simp); have h2 := hok.2.2 t (by simp); have h3 := hok.2.2 s (by simp); have h4 := hok.2.2 m (by simp)
            unfold okN at h1 h2 h3 h4
            simp at hx
            omega
        · exact ⟨1, [], .inl ⟨rfl, rfl, hok⟩⟩
      exact ⟨if q = 0 then 7 else q, fun u => (creply_nil u e g l t s m).mono fun x w' ⟨q', B', k1, k2, k3⟩ => ⟨by rw [k2, (rep_one rfl h k1).1], k3⟩, fun u => dreply_nil u e g l t s m h⟩
    go_upto_region 23 with fail
    go_region_held3 (fun u => u.cell? ⟨w.heap.size, 2, none⟩ = some (.int .i64 e) ∧ u.cell? ⟨w.heap.size, 3, none⟩ = some (.bool g) ∧ u.cell? ⟨w.heap.size, 4, none⟩ = some (.int .i64 l) ∧ u.cell? ⟨w.heap.size, 5, none⟩ = some (.int .i64 t) ∧ u.cell? ⟨w.heap.size, 6, none⟩ = some (.int .i64 s) ∧ u.cell? ⟨w.heap.size, 7, none⟩ = some (.int .i64 m))
      (((try dsimp only); refine ⟨?_, ?_, ?_, ?_, ?_, ?_⟩ <;> first | (with_reducible assumption) | (with_reducible exact drew_cell q0) | (with_reducible exact drew_cell q1) | (with_reducible exact drew_cell q2) | (with_reducible exact drew_cell q3) | (with_reducible exact drew_cell q4) | (with_reducible exact drew_cell q5)))
      (first
        | (go_at_call 52; (with_reducible refine (CR.out _).mono ?_); rintro x u1 ⟨rfl, y1⟩; have s0 : u1.cell? ⟨w.heap.size, 2, none⟩ = some (.int .i64 e) := ext_cell y1 (by first | assumption | exact drew_cell q0); have s1 : u1.cell? ⟨w.heap.size, 3, none⟩ = some (.bool g) := ext_cell y1 (by first | assumption | exact drew_cell q1); have s2 : u1.cell? ⟨w.heap.size, 4, none⟩ = some (.int .i64 l) := ext_cell y1 (by first | assumption | exact drew_cell q2); have s3 : u1.cell? ⟨w.heap.size, 5, none⟩ = some (.int .i64 t) := ext_cell y1 (by first | assumption | exact drew_cell q3); have s4 : u1.cell? ⟨w.heap.size, 6, none⟩ = some (.int .i64 s) := ext_cell y1 (by first | assumption | exact drew_cell q4); have s5 : u1.cell? ⟨w.heap.size, 7, none⟩ = some (.int .i64 m) := ext_cell y1 (by first | assumption | exact drew_cell q5); have Y1 := Lib.hid y1; clear y1)
        | (go_at_call 91; (with_reducible refine (CD.out _).mono ?_); rintro x u2 ⟨rfl, y2⟩; have t0 : u2.cell? ⟨w.heap.size, 2, none⟩ = some (.int .i64 e) := ext_cell y2 (by first | assumption | exact drew_cell q0); have t1 : u2.cell? ⟨w.heap.size, 3, none⟩ = some (.bool g) := ext_cell y2 (by first | assumption | exact drew_cell q1); have t2 : u2.cell? ⟨w.heap.size, 4, none⟩ = some (.int .i64 l) := ext_cell y2 (by first | assumption | exact drew_cell q2); have t3 : u2.cell? ⟨w.heap.size, 5, none⟩ = some (.int .i64 t) := ext_cell y2 (by first | assumption | exact drew_cell q3); have t4 : u2.cell? ⟨w.heap.size, 6, none⟩ = some (.int .i64 s) := ext_cell y2 (by first | assumption | exact drew_cell q4); have t5 : u2.cell? ⟨w.heap.size, 7, none⟩ = some (.int .i64 m) := ext_cell y2 (by first | assumption | exact drew_cell q5); have Y2 := Lib.hid y2; clear y2))
    all_goals
      go_wp2_with fail
      go_ret
      first | exact retTrue (XW.out.drew.trans (Y1.out.trans Y2.out)) | exact retTrue (XW.out.drew.trans (Y2.out.trans Y1.out))
  have z2 : ((k : Int) == 2) = false := by simp; omega
  by_cases h3 : k = 3
  · subst h3
    clear z0 h0 z1 h1 z2 h2
    go_wp2_with fail
    refine (ctake_nil W).mono ?_
    rintro x w1 ⟨rfl, rfl⟩
    go_wp2_with fail
    refine (dtake_nil W).mono ?_
    rintro x w1 ⟨rfl, rfl⟩
    have SA := Lib.hid (same_any none none 0 0 0 0 [] [] W rfl rfl (by omega) (by simp) (by simp) (Rd.nil _ _) (Rd.nil _ _))
    rw [show same [] [] = true by decide] at SA
    go_wp2_with fail
    refine (toE_q SA.out).mono ?_
    rintro x w2 ⟨rfl, x2⟩
    have X2 := Lib.hid (XW.out.trans x2)
    clear x2
    go_wp2_with fail
    go_loopw [119] (fun i wr => i = .int .i64 0 ∧ wr = w2) (fun _ _ => 0)
    case atStart => exact ⟨rfl, rfl⟩
    case round =>
      obtain ⟨rfl, hw5⟩ := hrel
      obtain rfl : w2 = wr := hw5.symm
      go_wp2_with fail
      go_ret
      exact retTrue X2.out
  have z3 : ((k : Int) == 3) = false := by simp; omega
  by_cases h4 : k = 4
  · subst h4
    clear z0 h0 z1 h1 z2 h2 z3 h3
    go_wp2_with fail
    refine (changup_nil W).mono ?_
    rintro x w1 ⟨rfl, rfl⟩
    go_wp2_with fail
    refine (dhangup_nil W).mono ?_
    rintro x w1 ⟨rfl, rfl⟩
    have SA := Lib.hid (toksSame_true W none none 0 0 0 [] [] [] rfl (by omega) (fun t h => by cases h) ⟨rfl, Rd.nil _ _, fun p hp => by cases hp⟩ ⟨rfl, Rd.nil _ _, fun p hp => by cases hp⟩)
    go_wp2_with fail
    refine (toE_q SA.out).mono ?_
    rintro x w2 ⟨rfl, x2⟩
    have X2 := Lib.hid (XW.out.trans x2)
    clear x2
    go_wp2_with fail
    go_loopw [140] (fun i wr => i = .int .i64 0 ∧ wr = w2) (fun _ _ => 0)
    case atStart => exact ⟨rfl, rfl⟩
    case round =>
      obtain ⟨rfl, hw5⟩ := hrel
      obtain rfl : w2 = wr := hw5.symm
      go_wp2_with fail
      go_ret
      exact retTrue X2.out
  have z4 : ((k : Int) == 4) = false := by simp; omega
  go_wp2_with fail
  go_ret
  exact retTrue XW.out
set_option maxHeartbeats 4000000 in
set_option maxRecDepth 100000 in
theorem connNil_walk (w : World) (k : Nat) (hk : k < 256) (A : Option Addr) (n c : Nat) (xs : List Nat) (hl : xs.length = n) (hb : ∀ x ∈ xs, x < 256) (hr : Rd w A (vals .u8 xs)) (hnc : n ≤ c) (hz : n ≤ 140737488351232) (e : Int) (g : Bool) (l t s m : Int) :
    Calls Try.prog 13 #[.agg #[.int .u8 (k : Int), .slice A n c, .int .i64 e, .bool g, .int .i64 l, .int .i64 t, .int .i64 s, .int .i64 m]] w (RetTrue w) := by
  have HR := Lib.hid hr
  clear hr
  go_enter Try.func13, Try.ntmps13
  go_upto_region 1 with fail
  obtain ⟨W, hW⟩ : ∃ W, w.alloc (.cells #[.int .u8 (k : Int), .slice A n c, .int .i64 e, .bool g, .int .i64 l, .int .i64 t, .int .i64 s, .int .i64 m] 97) = W := ⟨_, rfl⟩
  have xW : Ext w W := by rw [← hW]; exact (Ext.refl w).alloc _
  have KP := Lib.hid (show W.heap[w.heap.size]? = some (.cells #[.int .u8 (k : Int), .slice A n c, .int .i64 e, .bool g, .int .i64 l, .int .i64 t, .int .i64 s, .int .i64 m] 97 (0, 0)) by rw [← hW]; exact blk_new w _)
  rw [hW]
  clear hW
  go_wp2_with fail
  refine (cawake W).mono ?_
  rintro x w1 ⟨rfl, x1⟩
  have K1 := Lib.hid (blk_ext KP.out x1)
  have X1 := Lib.hid (xW.trans x1)
  have CA := Lib.hid (ccall_nil w1 k hk A n c xs hl hb (HR.out.ext X1.out) hnc hz e g l t s m)
  have q0 := blk_cell K1.out 0; have q1 := blk_cell K1.out 1; have q2 := blk_cell K1.out 2; have q3 := blk_cell K1.out 3; have q4 := blk_cell K1.out 4; have q5 := blk_cell K1.out 5; have q6 := blk_cell K1.out 6; have q7 := blk_cell K1.out 7
  clear x1 xW hl hb hnc hz hk
  go_wp2_with fail
  refine CA.out.mono ?_
  rintro x w2 ⟨rfl, x2⟩
  have X2 := Lib.hid (X1.out.trans x2)
  clear x2 q0 q1 q2 q3 q4 q5 q6 q7
  go_wp2_with fail
  refine (cledger_nil w2).mono ?_
  rintro x w3 ⟨rfl, rfl⟩
  go_wp2_with fail
  refine (cwaiting_nil w2).mono ?_
  rintro x w3 ⟨rfl, rfl⟩
  go_wp2_with fail
  refine (copen_nil w2).mono ?_
  rintro x w3 ⟨rfl, rfl⟩
  go_wp2_with fail
  go_ret
  exact retTrue X2.out
end Go.Proofs.Ythkdjjfnmlemdaa
