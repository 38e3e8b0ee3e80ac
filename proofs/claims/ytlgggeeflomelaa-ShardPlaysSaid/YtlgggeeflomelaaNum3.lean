/- spigotref01: Plus, Clamp, Add. -/
import Derived.Test.YtlgggeeflomelaaNum2
namespace Go.Proofs.Ytlgggeeflomelaa
open Go.RowKit

theorem own0U (w : World) : (w.alloc (.cells #[] 122)).ownsRow w.heap.size 122 1 (.slice (some ⟨w.heap.size, 0, none⟩) 0 0) 0 (vals .u64 []) := own_made w [] 122 1 0 rfl (Nat.zero_le _) (Nat.le_refl _)
/-- append of words onto a list of the call's own -/
theorem app_u64 {ops : Array Oper} {rest : List Oper} {o : Oper} {a : Act} {Q : Exit → Act → World → Prop} (w : World) (hgd : o.guard = none) (s x : Operand)
    (ho : o.op = .call { callee := .builtin .append, args := #[s, x], argTypes := #[165, 165] })
    (base : Nat) {B : Option Addr} {n cb : Nat} {xs : List Nat} (hs : a.eval s = .slice B n cb) (hown : w.ownsRow base 122 1 (.slice B n cb) n (vals .u64 xs))
    {A : Option Addr} {m c : Nat} {news : List Nat} (hx : a.eval x = .slice A m c) (hl : news.length = m) (hr : Rd w A (vals .u64 news)) (hb : n + m ≤ 17592186044416) (hbase : base ≤ w.heap.size)
    (h : ∀ B' cb' w', w'.ownsRow base 122 1 (.slice B' (n + m) cb') (n + m) (vals .u64 (xs ++ news)) → w.grownBy w' (Value.slice B n cb).ownBlock →
      ((Value.slice B' (n + m) cb').ownBlock = (Value.slice B n cb).ownBlock ∨ (Value.slice B' (n + m) cb').ownBlock = some w.heap.size) → wpList Try.prog ops Q rest (a.put o.dst (.slice B' (n + m) cb')) w') :
    wpList Try.prog ops Q (o :: rest) a w := by
  obtain ⟨i0, hi, hz0, hz1, hz2⟩ := info_parts info_u64
  refine wpList_append_rd w hgd s x 165 ho base 122 Try.underlying165 hi hz0 hz1 hz2 rfl (by decide) hs hown hx (by rw [vals_len, hl, Nat.mul_one]) hr (vals_one _ _) (by unfold maxLen; omega) (by omega) hbase ?_
  intro B' cb' w' h2 h3 h4
  rw [← vals_append] at h2
  exact h B' cb' w' h2 h3 h4
/-- what Plus keeps: c, the carry, i -/
def PlusInv (w : World) (xs ys : List Nat) (vc vk vi : Value) (wr : World) : Prop :=
  ∃ (i k : Nat) (C : Option Addr) (cc : Nat) (cs : List Nat), vi = .int .i64 (i : Int) ∧ vk = .int .u64 (k : Int) ∧ vc = .slice C i cc ∧ cs.length = i ∧ k ≤ 1 ∧ i ≤ 3 ∧ (∀ d ∈ cs, d < 4294967296) ∧
    numD cs + 4294967296 ^ i * k = numD (xs.take i) + numD (ys.take i) ∧ wr.ownsRow w.heap.size 122 1 (.slice C i cc) i (vals .u64 cs) ∧ Ext w wr ∧ (2 < i → k = 0)
theorem plusInv_step {w wr : World} {xs ys : List Nat} {i k a b : Nat} {cs : List Nat} (hl : cs.length = i) (hk : k ≤ 1) (hcs : ∀ d ∈ cs, d < 4294967296)
    (hx : ∀ d ∈ xs, d < 4294967296) (hy : ∀ d ∈ ys, d < 4294967296) (hxl : xs.length ≤ 2) (hyl : ys.length ≤ 2)
    (he : numD cs + 4294967296 ^ i * k = numD (xs.take i) + numD (ys.take i)) (ha : xs.getD i 0 = a) (hb : ys.getD i 0 = b) (hgo : i < xs.length ∨ i < ys.length ∨ 0 < k) (h2 : 2 < i → k = 0)
    {C : Option Addr} {cc : Nat} (ho : wr.ownsRow w.heap.size 122 1 (.slice C (i + 1) cc) (i + 1) (vals .u64 (cs ++ [(k + a + b) % 4294967296]))) (x : Ext w wr) :
    PlusInv w xs ys (.slice C (i + 1) cc) (.int .u64 (((k + a + b) / 4294967296 : Nat) : Int)) (.int .i64 ((i + 1 : Nat) : Int)) wr := by
  have h1 := dig_getD hx i
  have h3 := dig_getD hy i
  rw [ha] at h1
  rw [hb] at h3
  refine ⟨i + 1, (k + a + b) / 4294967296, C, cc, _, rfl, rfl, rfl, by simp [hl], by omega, by omega, fun d hd => ?_, ?_, ho, x, fun h => ?_⟩
  · rcases List.mem_append.1 hd with h | h
    · exact hcs d h
    · simp at h; omega
  · rw [plus_step cs i k a b _ _ _ hl he rfl rfl, numD_take_succ, numD_take_succ, ha, hb]
    omega
  · have e1 : a = 0 := by
      rw [← ha, List.getD_eq_getElem?_getD, List.getElem?_eq_none (by omega)]; rfl
    have e2 : b = 0 := by
      rw [← hb, List.getD_eq_getElem?_getD, List.getElem?_eq_none (by omega)]; rfl
    omega
theorem plusInv_end {xs ys cs : List Nat} {i : Nat} (he : numD cs + 4294967296 ^ i * 0 = numD (xs.take i) + numD (ys.take i)) (h1 : xs.length ≤ i) (h2 : ys.length ≤ i) : numD cs = numD xs + numD ys := by
  rw [List.take_of_length_le h1, List.take_of_length_le h2] at he
  omega
theorem rd_u64 (w : World) (v : Int) (x : Nat) (h : v = (x : Int)) : Rd (w.alloc (.cells #[.int .u64 v] 122)) (some ⟨w.heap.size, 0, none⟩) (vals .u64 [x]) := by
  subst h
  exact rd_new w (vals .u64 [x]) _

set_option maxHeartbeats 1000000 in
theorem rplus_any (w : World) (A B : Option Addr) (m c n d u v : Nat) (xs ys : List Nat) (hl : xs.length = m) (hr : Rd w A (vals .u64 xs)) (hx : DigN u xs) (hl' : ys.length = n) (hr' : Rd w B (vals .u64 ys)) (hy : DigN v ys) (hs : u + v < 18446744073709551616) :
    Calls Try.prog 98 #[.slice A m c, .slice B n d] w (RetD (u + v) w) := by
  have hm2 : m ≤ 2 := by rw [← hl]; exact hx.1
  have hn2 : n ≤ 2 := by rw [← hl']; exact hy.1
  have HL := Lib.hid hl; have HR := Lib.hid hr; have HX := Lib.hid hx; have HL' := Lib.hid hl'; have HR' := Lib.hid hr'; have HY := Lib.hid hy; have HS := Lib.hid hs
  clear hl hr hx hl' hr' hy hs
  go_enter Try.func98, Try.ntmps98
  go_wp2_with fail
  go_loopw [5, 6, 7] (fun vc vk vi wr => PlusInv w xs ys vc vk vi wr) (fun _ _ vi _ => (3 - intOf vi).toNat)
  case atStart => exact ⟨0, 0, none, 0, [], rfl, rfl, rfl, rfl, by omega, by omega, fun d hd => by simp at hd, by simp [numD], World.ownsRow_nil _ _ _ _, Ext.refl w, fun _ => rfl⟩
  case round =>
    obtain ⟨i, k, C, cc, cs, rfl, rfl, rfl, hcl, hk1, hi3, hcs, he, ho, hxw, h2i⟩ := hrel
    have HC := Lib.hid hcl; have HE := Lib.hid he; have HO := Lib.hid ho; have HXW := Lib.hid hxw; have HCS := Lib.hid hcs; have H2 := Lib.hid h2i
    clear hcl he ho hxw hcs h2i
    have STEP := Lib.hid (fun (a b : Nat) (ha : xs.getD i 0 = a) (hb : ys.getD i 0 = b) (hgo : i < m ∨ i < n ∨ 0 < k) (C' : Option Addr) (cc' : Nat) (w5 : World) o5 x5 => plusInv_step (w := w) (wr := w5) (C := C') (cc := cc') HC.out hk1 HCS.out HX.out.2.1 HY.out.2.1 HX.out.1 HY.out.1 HE.out ha hb (by rw [HL.out, HL'.out]; exact hgo) H2.out o5 x5)
    have hsz : w.heap.size ≤ wr.heap.size := HXW.out.size
    by_cases h1 : i < m
    · obtain ⟨a, hxa⟩ := get_of_lt (xs := xs) (j := i) (by rw [HL.out]; exact h1)
      obtain ⟨b1, o1, hA, _, hc1⟩ := (HR.out.ext HXW.out).at_ hxa
      have ga := Lib.hid (show xs.getD i 0 = a by rw [List.getD_eq_getElem?_getD, hxa]; rfl)
      have la := HX.out.2.1 a (List.mem_of_getElem? hxa)
      subst hA
      clear hxa
      by_cases h2 : i < n
      · obtain ⟨b, hyb⟩ := get_of_lt (xs := ys) (j := i) (by rw [HL'.out]; exact h2)
        obtain ⟨b2, o2, hB, _, hc2⟩ := (HR'.out.ext HXW.out).at_ hyb
        have gb := Lib.hid (show ys.getD i 0 = b by rw [List.getD_eq_getElem?_getD, hyb]; rfl)
        have lb := HY.out.2.1 b (List.mem_of_getElem? hyb)
        subst hB
        clear hyb
        have HST := Lib.hid (STEP.out a b ga.out gb.out (.inl h1))
        clear STEP
        go_wp2_with (at_builtin; refine app_u64 _ rfl (.tmp 44) (.tmp 47) rfl w.heap.size rfl (own_ext HO.out ((Ext.refl wr).alloc _)) rfl rfl (rd_u64 wr _ ((k + a + b) % 4294967296) (by omega)) (by omega) (by simp; omega) ?_; intro C' cc' w5 o5 g5 b5)
        have hx5 : Ext w w5 := (HXW.out.alloc _).grown g5 (fun q e => (HO.out.lt q e).1)
        have R5 := Lib.hid (HST.out C' cc' w5 o5 hx5)
        clear o5 g5 b5 hx5
        go_wp2_with fail
        go_roundw
        case rel => rw [show ((k : Int) + (a : Int) + (b : Int)) / 4294967296 = (((k + a + b) / 4294967296 : Nat) : Int) by omega]; exact R5.out
        case measure => simp [intOf]; omega
      · have gb := Lib.hid (show ys.getD i 0 = 0 by rw [List.getD_eq_getElem?_getD, List.getElem?_eq_none (by rw [HL'.out]; omega)]; rfl)
        have HST := Lib.hid (STEP.out a 0 ga.out gb.out (.inl h1))
        clear STEP
        go_wp2_with (at_builtin; refine app_u64 _ rfl (.tmp 44) (.tmp 47) rfl w.heap.size rfl (own_ext HO.out ((Ext.refl wr).alloc _)) rfl rfl (rd_u64 wr _ ((k + a + 0) % 4294967296) (by omega)) (by omega) (by simp; omega) ?_; intro C' cc' w5 o5 g5 b5)
        have hx5 : Ext w w5 := (HXW.out.alloc _).grown g5 (fun q e => (HO.out.lt q e).1)
        have R5 := Lib.hid (HST.out C' cc' w5 o5 hx5)
        clear o5 g5 b5 hx5
        go_wp2_with fail
        go_roundw
        case rel => rw [show ((k : Int) + (a : Int)) / 4294967296 = (((k + a + 0) / 4294967296 : Nat) : Int) by omega]; exact R5.out
        case measure => simp [intOf]; omega
    · have ga := Lib.hid (show xs.getD i 0 = 0 by rw [List.getD_eq_getElem?_getD, List.getElem?_eq_none (by rw [HL.out]; omega)]; rfl)
      by_cases h2 : i < n
      · obtain ⟨b, hyb⟩ := get_of_lt (xs := ys) (j := i) (by rw [HL'.out]; exact h2)
        obtain ⟨b2, o2, hB, _, hc2⟩ := (HR'.out.ext HXW.out).at_ hyb
        have gb := Lib.hid (show ys.getD i 0 = b by rw [List.getD_eq_getElem?_getD, hyb]; rfl)
        have lb := HY.out.2.1 b (List.mem_of_getElem? hyb)
        subst hB
        clear hyb
        have HST := Lib.hid (STEP.out 0 b ga.out gb.out (.inr (.inl h2)))
        clear STEP
        go_wp2_with (at_builtin; refine app_u64 _ rfl (.tmp 44) (.tmp 47) rfl w.heap.size rfl (own_ext HO.out ((Ext.refl wr).alloc _)) rfl rfl (rd_u64 wr _ ((k + 0 + b) % 4294967296) (by omega)) (by omega) (by simp; omega) ?_; intro C' cc' w5 o5 g5 b5)
        have hx5 : Ext w w5 := (HXW.out.alloc _).grown g5 (fun q e => (HO.out.lt q e).1)
        have R5 := Lib.hid (HST.out C' cc' w5 o5 hx5)
        clear o5 g5 b5 hx5
        go_wp2_with fail
        go_roundw
        case rel => rw [show ((k : Int) + (b : Int)) / 4294967296 = (((k + 0 + b) / 4294967296 : Nat) : Int) by omega]; exact R5.out
        case measure => simp [intOf]; omega
      · have gb := Lib.hid (show ys.getD i 0 = 0 by rw [List.getD_eq_getElem?_getD, List.getElem?_eq_none (by rw [HL'.out]; omega)]; rfl)
        by_cases hk0 : 0 < k
        · have hi2 : i ≤ 2 := by have := H2.out; omega
          obtain rfl : k = 1 := by omega
          have HST := Lib.hid (STEP.out 0 0 ga.out gb.out (.inr (.inr hk0)))
          clear STEP
          go_wp2_with (at_builtin; refine app_u64 _ rfl (.tmp 44) (.tmp 47) rfl w.heap.size rfl (own_ext HO.out ((Ext.refl wr).alloc _)) rfl rfl (rd_u64 wr _ ((1 + 0 + 0) % 4294967296) (by omega)) (by omega) (by simp; omega) ?_; intro C' cc' w5 o5 g5 b5)
          have hx5 : Ext w w5 := (HXW.out.alloc _).grown g5 (fun q e => (HO.out.lt q e).1)
          have R5 := Lib.hid (HST.out C' cc' w5 o5 hx5)
          clear o5 g5 b5 hx5
          go_wp2_with fail
          go_roundw
          case rel => exact R5.out
          case measure => simp [intOf]; omega
        · obtain rfl : k = 0 := by omega
          have hend := plusInv_end HE.out (by rw [HL.out]; omega) (by rw [HL'.out]; omega)
          rw [HX.out.2.2, HY.out.2.2] at hend
          have HEND := Lib.hid hend
          clear hend STEP
          go_wp2_with fail
          refine (rnorm_any wr C i cc cs HC.out (by omega) (own_cap HO.out) (fun a ha => by
            rcases HO.out.2 with h | ⟨g, cap, cur, h, _⟩
            · injection h.1 with h _ _
              rw [h] at ha
              cases ha
            · injection h with h _ _
              rw [h] at ha
              injection ha with ha
              subst ha
              rfl) (Rd.of_own HO.out)).mono ?_
          rintro e w6 ⟨q, rfl, q1, q2, q3, rfl⟩
          go_wp2_with fail
          go_ret
          have hlen : (cs.take q).length ≤ 2 := normD_len q3 (by rw [q2, HEND.out]; exact HS.out)
          refine ⟨C, q, cc, cs.take q, rfl, by rw [List.length_take]; omega, Nat.le_trans q1 (by rw [HC.out]; exact own_cap HO.out), (fun a ha => by
            rcases HO.out.2 with h | ⟨g, cap, cur, h, _⟩
            · injection h.1 with h _ _
              rw [h] at ha
              cases ha
            · injection h with h _ _
              rw [h] at ha
              injection ha with ha
              subst ha
              rfl), rd_takeN q (Rd.of_own HO.out), ⟨hlen, fun d hd => HCS.out d (List.mem_of_mem_take hd), by rw [q2, HEND.out]⟩, HXW.out⟩
theorem rclamp_any (n : Int) (w : World) (h2 : n ≤ 9223372036854775807) :
    Calls Try.prog 62 #[.int .i64 n] w fun e w' => e = .returned (.int .i64 (min (max n 0) 4611686018427387903)) ∧ Ext w w' := by
  by_cases h0 : n < 0
  · rw [show min (max n 0) 4611686018427387903 = 0 by omega]
    go_enter Try.func62, Try.ntmps62
    go_wp2
    go_ret
    exact ⟨rfl, Ext.refl w⟩
  · obtain ⟨k, rfl⟩ : ∃ k : Nat, n = (k : Int) := ⟨n.toNat, by omega⟩
    rw [show max (k : Int) 0 = (k : Int) by omega]
    go_enter Try.func62, Try.ntmps62
    go_wp2_with fail
    refine (rword_any k w (by omega)).mono ?_
    rintro e w1 ⟨A, m, c, ds, rfl, h1, _, _, h4, h5, h6⟩
    go_wp2_with fail
    refine (rheld_any w1 A m c k ds h1 h4 h5).mono ?_
    rintro e w2 ⟨rfl, rfl⟩
    go_wp2_with fail
    go_ret
    exact ⟨rfl, h6⟩
theorem radd_any (a b : Nat) (w : World) (h1 : (a : Int) ≤ 4611686018427387903) (h2 : (b : Int) ≤ 4611686018427387903) :
    Calls Try.prog 73 #[.int .i64 (a : Int), .int .i64 (b : Int)] w fun e w' => e = .returned (.int .i64 (min ((a : Int) + (b : Int)) 4611686018427387903)) ∧ Ext w w' := by
  go_enter Try.func73, Try.ntmps73
  go_wp2_with fail
  refine (rword_any a w (by omega)).mono ?_
  rintro e w1 ⟨A, m, c, xs, rfl, k1, _, _, k4, k5, k6⟩
  go_wp2_with fail
  refine (rword_any b w1 (by omega)).mono ?_
  rintro e w2 ⟨B, n, d, ys, rfl, l1, _, _, l4, l5, l6⟩
  go_wp2_with fail
  refine (rplus_any w2 A B m c n d a b xs ys k1 (k4.ext l6) k5 l1 l4 l5 (by omega)).mono ?_
  rintro e w3 ⟨C, q, f, zs, rfl, m1, _, _, m4, m5, m6⟩
  go_wp2_with fail
  refine (rheld_any w3 C q f (a + b) zs m1 m4 m5).mono ?_
  rintro e w4 ⟨rfl, rfl⟩
  go_wp2_with fail
  go_ret
  exact ⟨ret_int (by omega), (k6.trans l6).trans m6⟩
end Go.Proofs.Ytlgggeeflomelaa
