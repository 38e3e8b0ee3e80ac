/- frame.Reader.next. -/
import Derived.Test.YthkdjjfnmlemdaaFrA
namespace Go.Proofs.Ythkdjjfnmlemdaa
open Go.RowKit

set_option maxRecDepth 100000 in
set_option maxHeartbeats 1000000 in
theorem next_wait0 (w : World) (r : Nat) (A : Option Addr) (n c : Nat) (h : w.heap[r]? = some (.cells #[.slice A n c, .bool false] 103 (0, 0))) (hn : n < 4) :
    Calls Try.prog 62 #[.pointer (some ⟨r, 0, none⟩)] w fun e w' => e = .returned (.tuple #[.slice none 0 0, .bool false, .int .i64 0]) ∧ w'.heap[r]? = some (.cells #[.slice A n c, .bool false] 103 (0, 0)) ∧ w.grownBy w' (some r) := by
  have hmf : ∀ (fn : Fn) (first cap : Array Value) (w : World), (Instr.makeFunc fn first cap).run Try.prog w = .ok (.func fn first cap) w := fun _ _ _ _ => rfl
  have h0 : w.cell? ⟨r, 0, none⟩ = some (.slice A n c) := blk_cell h 0
  have hr := blk_lt h
  have p0 := cell_past h0
  have p1 := fun o o' => cell_past (cell_past h0 o) o'
  have H := Lib.hid h; clear h
  go_enter_defers Try.func62, Try.ntmps62
  go_wp2_with fail
  refine (take_few _ r 4 A n c false (blk_past (blk_past H.out _) _) hn).mono ?_
  rintro e w' ⟨rfl, rfl⟩
  go_wp2_with fail
  refine leaves_cons (f := 96) (args := #[.pointer (some ⟨w.heap.size + 1, 0, none⟩), .pointer (some ⟨w.heap.size, 0, none⟩)]) (by simp) (by simp [go_sem]) ?_
  refine (undo_panicking _ r w.heap.size (w.heap.size + 1) A A n c n c false [] (blk_past (blk_past H.out _) _) (by simp [go_sem]) (by simp [go_sem])).mono ?_
  rintro e u' w'' ⟨rfl, rfl, rfl⟩
  exact ⟨_, results_tmp3 rfl _ _ _, rfl, blk_set (blk_past (blk_past (blk_past H.out _) _) _) 0 _, grown_setCell (grown_alloc (grown_alloc (grown_alloc (World.grownBy.refl w _) _) _) _) 0 _⟩

theorem ofInt_i64' (a : Nat) (ha : a < 9223372036854775808) : (BitVec.ofInt 64 (a : Int)).toNat = a := by
  rw [BitVec.ofInt_natCast, BitVec.toNat_ofNat]; exact Nat.mod_eq_of_lt (by omega)
theorem i64_or_nat' (a b : Nat) (ha : a < 9223372036854775808) (hb : b < 9223372036854775808) : bits .or .i64 (a : Int) (b : Int) = ((a ||| b : Nat) : Int) := by
  have hx : a ||| b < 2 ^ 63 := Nat.or_lt_two_pow (by omega) (by omega)
  show IntKind.i64.wrap ((BitVec.ofInt 64 (a : Int) ||| BitVec.ofInt 64 (b : Int)).toNat : Int) = _
  rw [BitVec.toNat_or, ofInt_i64' a ha, ofInt_i64' b hb, IntKind.wrap_i64]
  omega
/-- the bytes of the length, one by one -/
def LenRel (L : List Nat) (n i : Value) : Prop := ∃ k : Nat, k ≤ 4 ∧ i = .int .i64 k ∧ n = .int .i64 ((numB (L.take k) : Nat) : Int)

theorem or_byte (a x : Nat) (ha : a < 16777216) (hx : x < 256) : bits .or .i64 ((a : Int) * 256) (x : Int) = ((a * 256 + x : Nat) : Int) := by
  have e : ((a : Int) * 256) = ((a * 256 : Nat) : Int) := by omega
  rw [e, i64_or_nat' _ _ (by omega) (by omega)]
  congr 1
  have h := Nat.two_pow_add_eq_or_of_lt (i := 8) (b := x) (by omega) a
  simp only [Nat.reducePow] at h
  rw [Nat.mul_comm a 256]
  exact h.symm

/-- what next leaves -/
def NextR (ws : List Nat) (w : World) (r : Nat) (S : Nat → Prop) (e : Ending) (w' : World) : Prop :=
  w.grownBy w' (some r) ∧
  ((headF ws = 0 ∧ e = .returned (.tuple #[.slice none 0 0, .bool false, .int .i64 0]) ∧ IsRdr w' r ws false S) ∨
   (headF ws = 1 ∧ e = .returned (.tuple #[.slice none 0 0, .bool false, .int .i64 12]) ∧ ∃ A n c, w'.heap[r]? = some (.cells #[.slice A n c, .bool false] 103 (0, 0))) ∨
   (headF ws = 2 ∧ (∃ A c, e = .returned (.tuple #[.slice A (payF ws).length c, .bool true, .int .i64 0]) ∧ w'.ownsRow w.heap.size 5 1 (.slice A (payF ws).length c) (payF ws).length (vals .u8 (payF ws))) ∧ IsRdr w' r (restF ws) false S))

set_option maxRecDepth 100000 in
set_option maxHeartbeats 2000000 in
theorem next_head (w : World) (r b off n c m d : Nat) (S : Nat → Prop) (A' : Option Addr) (ws : List Nat) (h : w.heap[r]? = some (.cells #[.slice (some ⟨b, off, none⟩) n c, .bool false] 103 (0, 0))) (hn : 4 ≤ n) (hnc : n ≤ c) (hm : n = m + 4) (hd : c = d + 4)
    (hl : ws.length = n) (hb : ∀ x ∈ ws, x < 256) (hr : Rd w (some ⟨b, off, none⟩) (vals .u8 ws)) (hbr : b ≠ r) (hbS : S b) (hN : n ≤ 9223372036854775807)
    (hsl : ∀ u : World, (Instr.slice 28 (.slice (some ⟨b, off, none⟩) n c) (some (.int .i64 ((4 : Nat) : Int))) none none).run Try.prog u = .ok (.slice A' m d) u)
    (hrd : ∀ (w : World) (vs : List Value), vs.length = n → Rd w (some ⟨b, off, none⟩) vs → Rd w A' (vs.drop 4)) (hA' : ∃ a', A' = some a' ∧ a'.block = b) :
    Calls Try.prog 62 #[.pointer (some ⟨r, 0, none⟩)] w (NextR ws w r S) := by
  have hmf : ∀ (fn : Fn) (first cap : Array Value) (w : World), (Instr.makeFunc fn first cap).run Try.prog w = .ok (.func fn first cap) w := fun _ _ _ _ => rfl
  have h0 : w.cell? ⟨r, 0, none⟩ = some (.slice (some ⟨b, off, none⟩) n c) := blk_cell h 0
  have hr' := blk_lt h
  have p0 := cell_past h0
  have p1 := fun o o' => cell_past (cell_past h0 o) o'
  have H := Lib.hid h; clear h
  have Hsl := Lib.hid hsl; clear hsl
  have Hr := Lib.hid hr; have Hl := Lib.hid hl; have Hb := Lib.hid hb; clear hr hl hb
  have Hm := Lib.hid hm; have Hd := Lib.hid hd; clear hm hd
  have Hrd := Lib.hid hrd; have HA' := Lib.hid hA'; clear hrd hA'
  go_enter_defers Try.func62, Try.ntmps62
  go_wp2_with fail
  refine (take_some _ r 4 (some ⟨b, off, none⟩) A' n c m d false (blk_past (blk_past H.out _) _) hn hnc Hsl.out).mono ?_
  rintro e w' ⟨rfl, hw'⟩
  have hwr : ∀ (j x : Nat), ws[j]? = some x → w'.cell? ⟨b, off + j, none⟩ = some (.int .u8 (x : Int)) := fun j x hx => by
    obtain ⟨b', off', hA, hc⟩ := Hr.out (by intro e; have := vals_get (k := .u8) hx; rw [e] at this; simp at this)
    injection hA with hA; injection hA with e1 e2 _; subst e1 e2
    rw [← hw', World.cell?_setCell_other _ _ _ _ (fun e => hbr (by injection e with e; exact e.symm))]
    exact cell_past (cell_past (hc j _ (vals_get hx)) _) _
  have hgw : w.grownBy w' (some r) := by rw [← hw']; exact grown_setCell (grown_alloc (grown_alloc (World.grownBy.refl w _) _) _) 0 _
  have hblk : w'.heap[r]? = some (.cells #[.slice A' m d, .bool false] 103 (0, 0)) := by rw [← hw']; exact blk_set (blk_past (blk_past H.out _) _) 0 _
  have hb1 : w'.cell? ⟨w.heap.size, 0, none⟩ = some (.pointer (some ⟨r, 0, none⟩)) := by
    rw [← hw', World.cell?_setCell_other _ _ _ _ (fun e => by injection e with e; omega)]
    exact cell_past (by simp) _
  have hb2 : w'.cell? ⟨w.heap.size + 1, 0, none⟩ = some (.slice (some ⟨b, off, none⟩) n c) := by
    rw [← hw', World.cell?_setCell_other _ _ _ _ (fun e => by injection e with e; omega)]
    have := World.cell?_alloc_new (w.alloc (.cells #[.pointer (some ⟨r, 0, none⟩)] 25)) #[.slice (some ⟨b, off, none⟩) n c] 28 0
    rw [World.size_alloc] at this
    exact this
  have hc1 : w'.cell? ⟨r, 0, none⟩ = some (.slice A' m d) := blk_cell hblk 0
  have Hgw := Lib.hid hgw; have Hblk := Lib.hid hblk; have Hb2 := Lib.hid hb2; clear hgw hblk hb2 h0 p0 p1
  have Hw' := Lib.hid hw'; have Hwr := Lib.hid hwr; clear hw' hwr
  go_wp2_with fail
  go_loop [6, 17] (fun nn i => ∃ k : Nat, k ≤ 4 ∧ i = .int .i64 k ∧ nn = .int .i64 ((numB (ws.take k) : Nat) : Int)) (fun _ i => 4 - (intOf i).toNat)
  case atStart => exact ⟨0, by omega, rfl, rfl⟩
  case round =>
    obtain ⟨k, hk, rfl, rfl⟩ := hrel
    by_cases hlt : k < 4
    · obtain ⟨x, hx⟩ := get_of_lt (xs := ws) (j := k) (by rw [Hl.out]; omega)
      have hx256 : x < 256 := Hb.out x (List.mem_of_getElem? hx)
      have hc := Hwr.out k x hx
      have hnl := numB_lt (ws.take k) (fun y hy => Hb.out y (List.mem_of_mem_take hy))
      have hn24 : numB (ws.take k) < 16777216 := by
        have e : (ws.take k).length = k := by rw [List.length_take, Hl.out]; omega
        rw [e] at hnl
        have : k = 0 ∨ k = 1 ∨ k = 2 ∨ k = 3 := by omega
        rcases this with rfl | rfl | rfl | rfl <;> omega
      have Hx := Lib.hid hx; clear hx hnl
      go_wp2
      go_round
      case rel => exact ⟨k + 1, by omega, by go_num, by rw [take_succ_of Hx.out, numB_snoc, or_byte _ _ hn24 hx256]⟩
      case measure => simp [intOf]; omega
    · obtain rfl : k = 4 := by omega
      have hnl := numB_lt (ws.take 4) (fun y hy => Hb.out y (List.mem_of_mem_take hy))
      rw [show (ws.take 4).length = 4 by rw [List.length_take, Hl.out]; omega] at hnl
      have hL : headF ws = if numB (ws.take 4) = 0 ∨ 4096 < numB (ws.take 4) then 1 else if n - 4 < numB (ws.take 4) then 0 else 2 := by
        unfold headF; rw [if_neg (by rw [Hl.out]; omega), Hl.out]
      have hpay : payF ws = (ws.drop 4).take (numB (ws.take 4)) := rfl
      have hrest : restF ws = (ws.drop 4).drop (numB (ws.take 4)) := rfl
      generalize numB (ws.take 4) = L at *
      have HL := Lib.hid hL; have Hpay := Lib.hid hpay; have Hrest := Lib.hid hrest; clear hL hpay hrest hk
      by_cases hL0 : L = 0 ∨ 4096 < L
      · have HL1 := Lib.hid (show headF ws = 1 by rw [HL.out, if_pos hL0])
        rcases hL0 with rfl | hL0
        all_goals
          go_wp2_with fail
          refine leaves_cons (f := 96) (args := #[.pointer (some ⟨w.heap.size + 1, 0, none⟩), .pointer (some ⟨w.heap.size, 0, none⟩)]) (by simp) (by simp [go_sem]) ?_
          refine (undo_idle _ _ _).mono ?_
          rintro e u' w'' ⟨rfl, rfl, rfl⟩
          exact ⟨_, results_tmp3 rfl _ _ _, Hgw.out, .inr (.inl ⟨HL1.out, rfl, _, _, _, Hblk.out⟩)⟩
      · have hL1 : 1 ≤ L := by omega
        have hL2 : L ≤ 4096 := by omega
        have hLne : ((L : Int) == 0) = false := by rw [beq_eq_false_iff_ne]; omega
        by_cases hlm : m < L
        · have HL1 := Lib.hid (show headF ws = 0 by rw [HL.out, if_neg hL0, if_pos (by have := Hm.out; omega)])
          clear hL0
          go_wp2_with fail
          refine (take_few w' r L A' m d false Hblk.out hlm).mono ?_
          rintro e w'' ⟨rfl, rfl⟩
          go_wp2_with fail
          refine leaves_cons (f := 96) (args := #[.pointer (some ⟨w.heap.size + 1, 0, none⟩), .pointer (some ⟨w.heap.size, 0, none⟩)]) (by simp) (by simp [go_sem]) ?_
          refine (undo_panicking w' r w.heap.size (w.heap.size + 1) A' (some ⟨b, off, none⟩) m d n c false [] Hblk.out hb1 Hb2.out).mono ?_
          rintro e u' w'' ⟨rfl, rfl, rfl⟩
          have hg := grown_setCell (grown_alloc Hgw.out (.cells #[] 143)) 0 (.slice (some ⟨b, off, none⟩) n c)
          exact ⟨_, results_tmp3 rfl _ _ _, hg, .inl ⟨HL1.out, rfl, _, _, _, blk_set (blk_past Hblk.out _) 0 _, Hl.out, hnc, Hr.out.grown hg (fun a ha hr => by injection ha with ha; injection hr with hr; subst ha; exact hbr hr.symm), fun a ha => by injection ha with ha; subst ha; exact hbS⟩⟩
        · have HL1 := Lib.hid (show headF ws = 2 by rw [HL.out, if_neg hL0, if_neg (by have := Hm.out; omega)])
          clear hL0
          have hlm' : L ≤ m := by omega
          have hmd : m ≤ d := by have := Hm.out; have := Hd.out; omega
          obtain ⟨a', rfl, hab⟩ := HA'.out
          obtain ⟨A2, hsl2, hrd2, hA2⟩ := slice_from_any Try.underlying28 size_u8 (A := some a') (n := m) (c := d) (m := m - L) (d := d - L) L (ki := (L : Int)) rfl hmd (by omega) (by omega)
          have Hrd2 := Lib.hid hrd2; have HA2 := Lib.hid hA2; have Hsl2 := Lib.hid hsl2; clear hrd2 hA2 hsl2
          have Hab := Lib.hid hab; clear hab
          go_wp2_with fail
          refine (take_some w' r L (some a') A2 m d (m - L) (d - L) false Hblk.out hlm' hmd Hsl2.out).mono ?_
          rintro e w'' ⟨rfl, hw''⟩
          have hg2 : w'.grownBy w'' (some r) := by rw [← hw'']; exact grown_set _ _ _ _
          have hblk2 : w''.heap[r]? = some (.cells #[.slice A2 (m - L) (d - L), .bool false] 103 (0, 0)) := by rw [← hw'']; exact blk_set Hblk.out 0 _
          clear hw''
          have hg3 := World.grown_trans Hgw.out hg2
          have hrw : Rd w'' (some ⟨b, off, none⟩) (vals .u8 ws) := Hr.out.grown hg3 (fun a ha hr => by injection ha with ha; injection hr with hr; subst ha; exact hbr hr.symm)
          have hrp : Rd w'' (some a') (vals .u8 (ws.drop 4)) := by rw [vals_drop]; exact Hrd.out w'' _ (by rw [vals_len, Hl.out]) hrw
          have hlp : (payF ws).length = L := by rw [Hpay.out, List.length_take, List.length_drop, Hl.out]; have := Hm.out; omega
          have hrp2 : Rd w'' (some a') (vals .u8 (payF ws)) := by
            rw [Hpay.out]; exact rd_take (ys := (ws.drop 4).drop L) (by rw [List.take_append_drop]; exact hrp)
          have C1 := Lib.hid (clone_some a' L d (payF ws) w'' hlp (by omega) hrp2)
          have Hlp := Lib.hid hlp; have Hrp := Lib.hid hrp; have Hrw := Lib.hid hrw; have Hg3 := Lib.hid hg3; have Hblk2 := Lib.hid hblk2
          clear hlp hrp hrp2 hrw hg3 hg2 hblk2
          go_wp2_with fail
          refine C1.out.mono ?_
          rintro e w3 ⟨A3, c3, rfl, hown, hx3⟩
          rw [Hlp.out] at hown ⊢
          have Hown := Lib.hid hown; have Hx3 := Lib.hid hx3; clear hown hx3
          go_wp2_with fail
          refine leaves_cons (f := 96) (args := #[.pointer (some ⟨w.heap.size + 1, 0, none⟩), .pointer (some ⟨w.heap.size, 0, none⟩)]) (by simp) (by simp [go_sem]) ?_
          refine (undo_idle _ _ _).mono ?_
          rintro e u' w4 ⟨rfl, rfl, rfl⟩
          refine ⟨_, results_tmp3 rfl _ _ _, grown_ext Hg3.out Hx3.out, .inr (.inr ⟨HL1.out, ⟨A3, c3, ?_, ?_⟩, A2, m - L, d - L, blk_ext Hblk2.out Hx3.out, ?_, by omega, ?_, ?_⟩)⟩
          · rw [Hlp.out]; rfl
          · rw [Hlp.out]; exact own_base Hown.out Hg3.out.size
          · rw [Hrest.out, List.length_drop, List.length_drop, Hl.out]; have := Hm.out; omega
          · rw [Hrest.out, vals_drop]; exact Hrd2.out w3 _ (by rw [vals_len, List.length_drop, Hl.out]; have := Hm.out; omega) (Hrp.out.ext Hx3.out)
          · intro a ha
            obtain ⟨a2, ha2, hb2⟩ := HA2.out a' rfl
            rw [ha] at ha2
            injection ha2 with ha2
            subst ha2
            rw [hb2, Hab.out]; exact hbS

theorem rd_ne {w : World} {r n c : Nat} {A B : Option Addr} {cl : Bool} {t : TypeId} {ws : List Nat} {a : Addr} (h : w.heap[r]? = some (.cells #[.slice A n c, .bool cl] t (0, 0))) (hr : Rd w B (vals .u8 ws)) (ha : B = some a) (hws : ws ≠ []) : a.block ≠ r := by
  rintro rfl
  cases ws with
  | nil => exact hws rfl
  | cons x t =>
    obtain ⟨b, off, hB, hc⟩ := hr (by simp [vals])
    rw [ha] at hB
    injection hB with hB
    subst hB
    have h1 := hc 0 _ rfl
    rw [Nat.add_zero, blk_cell h off] at h1
    match off, h1 with
    | 0, h1 => simp at h1
    | 1, h1 => simp at h1
    | _ + 2, h1 => simp at h1
theorem headF_few {ws : List Nat} (h : ws.length < 4) : headF ws = 0 := by unfold headF; rw [if_pos h]

theorem next_any (w : World) (r : Nat) (S : Nat → Prop) (ws : List Nat) (h : IsRdr w r ws false S) (hb : ∀ x ∈ ws, x < 256) (hN : ws.length ≤ 9223372036854775807) :
    Calls Try.prog 62 #[.pointer (some ⟨r, 0, none⟩)] w (NextR ws w r S) := by
  obtain ⟨A, n, c, hblk, hl, hnc, hr, hAS⟩ := h
  by_cases hn : n < 4
  · refine (next_wait0 w r A n c hblk hn).mono ?_
    rintro e w' ⟨he, hb', hg⟩
    have hne : ∀ a, A = some a → ws ≠ [] → a.block ≠ r := fun a ha hws => rd_ne hblk hr ha hws
    refine ⟨hg, .inl ⟨headF_few (by omega), he, A, n, c, hb', hl, hnc, ?_, hAS⟩⟩
    by_cases hws : ws = []
    · subst hws; exact Rd.nil _ _
    · exact hr.grown hg (fun a ha hr' => hne a ha hws (by injection hr' with hr'; exact hr'.symm))
  · have hws : ws ≠ [] := by rintro rfl; simp at hl; omega
    obtain ⟨b, off, rfl, _⟩ := hr (by simpa [vals] using hws)
    obtain ⟨A', hsl, hrd, hA'⟩ := slice_from_any Try.underlying28 size_u8 (A := some ⟨b, off, none⟩) (n := n) (c := c) (m := n - 4) (d := c - 4) 4 (ki := ((4 : Nat) : Int)) rfl hnc (by omega) (by omega)
    exact next_head w r b off n c (n - 4) (c - 4) S A' ws hblk (by omega) hnc (by omega) (by omega) hl hb hr (rd_ne hblk hr rfl hws) (hAS _ rfl) (by omega) hsl hrd (hA' _ rfl)
end Go.Proofs.Ythkdjjfnmlemdaa
