/- Laid together: what 'TopGivenBack' needs, part 7 of 12. -/
import Derived.Recover
import Derived.Deep.RegionHeld3
import Derived.Deep.DeepCutAuto
import Derived.Deep.CutBlock
import Derived.Deep.LoopGhost
import Derived.Test.YtloidkmphigbdaaGreatBTopGivenBack1
import Derived.Test.YtloidkmphigbdaaGreatBTopGivenBack6
namespace Go.Proofs.YtloidkmphigbdaaGreat
set_option linter.all false

section
open Go.RowKit

set_option maxRecDepth 100000 in
set_option maxHeartbeats 1000000 in
theorem next_wait0 (w : World) (r : Nat) (A : Option Addr) (n c : Nat) (h : w.heap[r]? = some (.cells #[.slice A n c, .bool false] 283 (0, 0))) (hn : n < 4) :
    Calls Tryz.prog 157 #[.pointer (some ⟨r, 0, none⟩)] w fun e w' => e = .returned (.tuple #[.slice none 0 0, .bool false, .int .i64 0]) ∧ w'.heap[r]? = some (.cells #[.slice A n c, .bool false] 283 (0, 0)) ∧ w.grownBy w' (some r) := by
  have hmf : ∀ (fn : Fn) (first cap : Array Value) (w : World), (Instr.makeFunc fn first cap).run Tryz.prog w = .ok (.func fn first cap) w := fun _ _ _ _ => rfl
  have h0 : w.cell? ⟨r, 0, none⟩ = some (.slice A n c) := blk_cell h 0
  have hr := blk_lt h
  have p0 := cell_past h0
  have p1 := fun o o' => cell_past (cell_past h0 o) o'
  have H := Lib.hid h; clear h
  go_enter_defers Tryz.func157, Tryz.ntmps157
  go_wp2_with fail
  refine (take_few _ r 4 A n c false (blk_past (blk_past H.out _) _) hn).mono ?_
  rintro e w' ⟨rfl, rfl⟩
  go_wp2_with fail
  refine leaves_cons (f := 215) (args := #[.pointer (some ⟨w.heap.size + 1, 0, none⟩), .pointer (some ⟨w.heap.size, 0, none⟩)]) (by simp) (by simp [go_sem]) ?_
  refine (undo_panicking _ r w.heap.size (w.heap.size + 1) A A n c n c false [] (blk_past (blk_past H.out _) _) (by simp [go_sem]) (by simp [go_sem])).mono ?_
  rintro e u' w'' ⟨rfl, rfl, rfl⟩
  exact ⟨_, results_tmp3 rfl _ _ _, rfl, blk_set (blk_past (blk_past (blk_past H.out _) _) _) 0 _, grown_setCell (grown_alloc (grown_alloc (grown_alloc (World.grownBy.refl w _) _) _) _) 0 _⟩

theorem ofInt_i64' (a : Nat) (ha : a < 9223372036854775808) : (BitVec.ofInt 64 (a : Int)).toNat = a := by
  rw [BitVec.ofInt_natCast, BitVec.toNat_ofNat]; exact Nat.mod_eq_of_lt (by omega)
theorem i64_or_nat' (a b : Nat) (ha : a < 9223372036854775808) (hb : b < 9223372036854775808) : bits .or .i64 (a : Int) (b : Int) = ((a ||| b : Nat) : Int) := by
  have hx : a ||| b < 2 ^ 63 := Nat.or_lt_two_pow (by omega) (by omega)
  show IntKind.i64.wrap ((BitVec.ofInt 64 (a : Int) ||| BitVec.ofInt 64 (b : Int)).toNat : Int) = _
  rw [BitVec.toNat_or, ofInt_i64' a ha, ofInt_i64' b hb, IntKind.wrap_i64]
  omega
theorem or_byte (a x : Nat) (ha : a < 16777216) (hx : x < 256) : bits .or .i64 ((a : Int) * 256) (x : Int) = ((a * 256 + x : Nat) : Int) := by
  have e : ((a : Int) * 256) = ((a * 256 : Nat) : Int) := by omega
  rw [e, i64_or_nat' _ _ (by omega) (by omega)]
  congr 1
  have h := Nat.two_pow_add_eq_or_of_lt (i := 8) (b := x) (by omega) a
  simp only [Nat.reducePow] at h
  rw [Nat.mul_comm a 256]
  exact h.symm

/-- what next leaves -/
def NextR (ws : List Nat) (w : World) (r : Nat) (S : Nat → Prop) (e : Ending) (w' : World) : Prop :=
  w.grownBy w' (some r) ∧
  ((headF ws = 0 ∧ e = .returned (.tuple #[.slice none 0 0, .bool false, .int .i64 0]) ∧ IsRdr w' r ws false S) ∨
   (headF ws = 1 ∧ e = .returned (.tuple #[.slice none 0 0, .bool false, .int .i64 12]) ∧ ∃ A n c, w'.heap[r]? = some (.cells #[.slice A n c, .bool false] 283 (0, 0))) ∨
   (headF ws = 2 ∧ (∃ A c, e = .returned (.tuple #[.slice A (payF ws).length c, .bool true, .int .i64 0]) ∧ w'.ownsRow w.heap.size 5 1 (.slice A (payF ws).length c) (payF ws).length (vals .u8 (payF ws))) ∧ IsRdr w' r (restF ws) false S))

set_option maxRecDepth 100000 in
set_option maxHeartbeats 2000000 in
theorem next_head (w : World) (r b off n c m d : Nat) (S : Nat → Prop) (A' : Option Addr) (ws : List Nat) (h : w.heap[r]? = some (.cells #[.slice (some ⟨b, off, none⟩) n c, .bool false] 283 (0, 0))) (hn : 4 ≤ n) (hnc : n ≤ c) (hm : n = m + 4) (hd : c = d + 4)
    (hl : ws.length = n) (hb : ∀ x ∈ ws, x < 256) (hr : Rd w (some ⟨b, off, none⟩) (vals .u8 ws)) (hbr : b ≠ r) (hbS : S b) (hN : n ≤ 9223372036854775807)
    (hsl : ∀ u : World, (Instr.slice 32 (.slice (some ⟨b, off, none⟩) n c) (some (.int .i64 ((4 : Nat) : Int))) none none).run Tryz.prog u = .ok (.slice A' m d) u)
    (hrd : ∀ (w : World) (vs : List Value), vs.length = n → Rd w (some ⟨b, off, none⟩) vs → Rd w A' (vs.drop 4)) (hA' : ∃ a', A' = some a' ∧ a'.block = b) :
    Calls Tryz.prog 157 #[.pointer (some ⟨r, 0, none⟩)] w (NextR ws w r S) := by
  have hmf : ∀ (fn : Fn) (first cap : Array Value) (w : World), (Instr.makeFunc fn first cap).run Tryz.prog w = .ok (.func fn first cap) w := fun _ _ _ _ => rfl
  have h0 : w.cell? ⟨r, 0, none⟩ = some (.slice (some ⟨b, off, none⟩) n c) := blk_cell h 0
  have hr' := blk_lt h
  have p0 := cell_past h0
  have p1 := fun o o' => cell_past (cell_past h0 o) o'
  have H := Lib.hid h; clear h
  have Hsl := Lib.hid hsl; clear hsl
  have Hr := Lib.hid hr; have Hl := Lib.hid hl; have Hb := Lib.hid hb; clear hr hl hb
  have Hm := Lib.hid hm; have Hd := Lib.hid hd; clear hm hd
  have Hrd := Lib.hid hrd; have HA' := Lib.hid hA'; clear hrd hA'
  go_enter_defers Tryz.func157, Tryz.ntmps157
  go_wp2_with fail
  refine (take_some _ r 4 (some ⟨b, off, none⟩) A' n c m d false (blk_past (blk_past H.out _) _) hn hnc Hsl.out).mono ?_
  rintro e w' ⟨rfl, hw'⟩
  have hwr : ∀ (j x : Nat), ws[j]? = some x → w'.cell? ⟨b, off + j, none⟩ = some (.int .u8 (x : Int)) := fun j x hx => by
    obtain ⟨b', off', hA, hc⟩ := Hr.out (by intro e; have := vals_get (k := .u8) hx; rw [e] at this; simp at this)
    injection hA with hA; injection hA with e1 e2 _; subst e1 e2
    rw [← hw', World.cell?_setCell_other _ _ _ _ (fun e => hbr (by injection e with e; exact e.symm))]
    exact cell_past (cell_past (hc j _ (vals_get hx)) _) _
  have hgw : w.grownBy w' (some r) := by rw [← hw']; exact grown_setCell (grown_alloc (grown_alloc (World.grownBy.refl w _) _) _) 0 _
  have hblk : w'.heap[r]? = some (.cells #[.slice A' m d, .bool false] 283 (0, 0)) := by rw [← hw']; exact blk_set (blk_past (blk_past H.out _) _) 0 _
  have hb1 : w'.cell? ⟨w.heap.size, 0, none⟩ = some (.pointer (some ⟨r, 0, none⟩)) := by
    rw [← hw', World.cell?_setCell_other _ _ _ _ (fun e => by injection e with e; omega)]
    exact cell_past (by simp) _
  have hb2 : w'.cell? ⟨w.heap.size + 1, 0, none⟩ = some (.slice (some ⟨b, off, none⟩) n c) := by
    rw [← hw', World.cell?_setCell_other _ _ _ _ (fun e => by injection e with e; omega)]
    have := World.cell?_alloc_new (w.alloc (.cells #[.pointer (some ⟨r, 0, none⟩)] 224)) #[.slice (some ⟨b, off, none⟩) n c] 32 0
    rw [World.size_alloc] at this
    exact this
  have hc1 : w'.cell? ⟨r, 0, none⟩ = some (.slice A' m d) := blk_cell hblk 0
  have Hgw := Lib.hid hgw; have Hblk := Lib.hid hblk; have Hb2 := Lib.hid hb2; clear hgw hblk hb2 h0 p0 p1
  have Hw' := Lib.hid hw'; have Hwr := Lib.hid hwr; clear hw' hwr
  go_wp2_with fail
  go_loop [6, 17] (fun nn i => ∃ k : Nat, k ≤ 4 ∧ i = .int .i64 k ∧ nn = .int .i64 ((numB (ws.take k) : Nat) : Int)) (fun _ i => 4 - (intOf i).toNat)
  case atStart => exact ⟨0, by omega, rfl, rfl⟩
  case round =>
    obtain ⟨k, hk, rfl, rfl⟩ := hrel
    by_cases hlt : k < 4
    · obtain ⟨x, hx⟩ := get_of_lt (xs := ws) (j := k) (by rw [Hl.out]; omega)
      have hx256 : x < 256 := Hb.out x (List.mem_of_getElem? hx)
      have hc := Hwr.out k x hx
      have hnl := numB_lt (ws.take k) (fun y hy => Hb.out y (List.mem_of_mem_take hy))
      have hn24 : numB (ws.take k) < 16777216 := by
        have e : (ws.take k).length = k := by rw [List.length_take, Hl.out]; omega
        rw [e] at hnl
        have : k = 0 ∨ k = 1 ∨ k = 2 ∨ k = 3 := by omega
        rcases this with rfl | rfl | rfl | rfl <;> omega
      have Hx := Lib.hid hx; clear hx hnl
      go_wp2
      go_round
      case rel => exact ⟨k + 1, by omega, by go_num, by rw [take_succ_of Hx.out, numB_snoc, or_byte _ _ hn24 hx256]⟩
      case measure => simp [intOf]; omega
    · obtain rfl : k = 4 := by omega
      have hnl := numB_lt (ws.take 4) (fun y hy => Hb.out y (List.mem_of_mem_take hy))
      rw [show (ws.take 4).length = 4 by rw [List.length_take, Hl.out]; omega] at hnl
      have hL : headF ws = if numB (ws.take 4) = 0 ∨ 4096 < numB (ws.take 4) then 1 else if n - 4 < numB (ws.take 4) then 0 else 2 := by
        unfold headF; rw [if_neg (by rw [Hl.out]; omega), Hl.out]
      have hpay : payF ws = (ws.drop 4).take (numB (ws.take 4)) := rfl
      have hrest : restF ws = (ws.drop 4).drop (numB (ws.take 4)) := rfl
      generalize numB (ws.take 4) = L at *
      have HL := Lib.hid hL; have Hpay := Lib.hid hpay; have Hrest := Lib.hid hrest; clear hL hpay hrest hk
      by_cases hL0 : L = 0 ∨ 4096 < L
      · have HL1 := Lib.hid (show headF ws = 1 by rw [HL.out, if_pos hL0])
        rcases hL0 with rfl | hL0
        all_goals
          go_wp2_with fail
          refine leaves_cons (f := 215) (args := #[.pointer (some ⟨w.heap.size + 1, 0, none⟩), .pointer (some ⟨w.heap.size, 0, none⟩)]) (by simp) (by simp [go_sem]) ?_
          refine (undo_idle _ _ _).mono ?_
          rintro e u' w'' ⟨rfl, rfl, rfl⟩
          exact ⟨_, results_tmp3 rfl _ _ _, Hgw.out, .inr (.inl ⟨HL1.out, rfl, _, _, _, Hblk.out⟩)⟩
      · have hL1 : 1 ≤ L := by omega
        have hL2 : L ≤ 4096 := by omega
        have hLne : ((L : Int) == 0) = false := by rw [beq_eq_false_iff_ne]; omega
        by_cases hlm : m < L
        · have HL1 := Lib.hid (show headF ws = 0 by rw [HL.out, if_neg hL0, if_pos (by have := Hm.out; omega)])
          clear hL0
          go_wp2_with fail
          refine (take_few w' r L A' m d false Hblk.out hlm).mono ?_
          rintro e w'' ⟨rfl, rfl⟩
          go_wp2_with fail
          refine leaves_cons (f := 215) (args := #[.pointer (some ⟨w.heap.size + 1, 0, none⟩), .pointer (some ⟨w.heap.size, 0, none⟩)]) (by simp) (by simp [go_sem]) ?_
          refine (undo_panicking w' r w.heap.size (w.heap.size + 1) A' (some ⟨b, off, none⟩) m d n c false [] Hblk.out hb1 Hb2.out).mono ?_
          rintro e u' w'' ⟨rfl, rfl, rfl⟩
          have hg := grown_setCell (grown_alloc Hgw.out (.cells #[] 340)) 0 (.slice (some ⟨b, off, none⟩) n c)
          exact ⟨_, results_tmp3 rfl _ _ _, hg, .inl ⟨HL1.out, rfl, _, _, _, blk_set (blk_past Hblk.out _) 0 _, Hl.out, hnc, Hr.out.grown hg (fun a ha hr => by injection ha with ha; injection hr with hr; subst ha; exact hbr hr.symm), fun a ha => by injection ha with ha; subst ha; exact hbS⟩⟩
        · have HL1 := Lib.hid (show headF ws = 2 by rw [HL.out, if_neg hL0, if_neg (by have := Hm.out; omega)])
          clear hL0
          have hlm' : L ≤ m := by omega
          have hmd : m ≤ d := by have := Hm.out; have := Hd.out; omega
          obtain ⟨a', rfl, hab⟩ := HA'.out
          obtain ⟨A2, hsl2, hrd2, hA2⟩ := slice_from_any Tryz.underlying32 size_u8 (A := some a') (n := m) (c := d) (m := m - L) (d := d - L) L (ki := (L : Int)) rfl hmd (by omega) (by omega)
          have Hrd2 := Lib.hid hrd2; have HA2 := Lib.hid hA2; have Hsl2 := Lib.hid hsl2; clear hrd2 hA2 hsl2
          have Hab := Lib.hid hab; clear hab
          go_wp2_with fail
          refine (take_some w' r L (some a') A2 m d (m - L) (d - L) false Hblk.out hlm' hmd Hsl2.out).mono ?_
          rintro e w'' ⟨rfl, hw''⟩
          have hg2 : w'.grownBy w'' (some r) := by rw [← hw'']; exact grown_set _ _ _ _
          have hblk2 : w''.heap[r]? = some (.cells #[.slice A2 (m - L) (d - L), .bool false] 283 (0, 0)) := by rw [← hw'']; exact blk_set Hblk.out 0 _
          clear hw''
          have hg3 := World.grown_trans Hgw.out hg2
          have hrw : Rd w'' (some ⟨b, off, none⟩) (vals .u8 ws) := Hr.out.grown hg3 (fun a ha hr => by injection ha with ha; injection hr with hr; subst ha; exact hbr hr.symm)
          have hrp : Rd w'' (some a') (vals .u8 (ws.drop 4)) := by rw [vals_drop]; exact Hrd.out w'' _ (by rw [vals_len, Hl.out]) hrw
          have hlp : (payF ws).length = L := by rw [Hpay.out, List.length_take, List.length_drop, Hl.out]; have := Hm.out; omega
          have hrp2 : Rd w'' (some a') (vals .u8 (payF ws)) := by
            rw [Hpay.out]; exact rd_take (ys := (ws.drop 4).drop L) (by rw [List.take_append_drop]; exact hrp)
          have C1 := Lib.hid (clone_some a' L d (payF ws) w'' hlp (by omega) hrp2)
          have Hlp := Lib.hid hlp; have Hrp := Lib.hid hrp; have Hrw := Lib.hid hrw; have Hg3 := Lib.hid hg3; have Hblk2 := Lib.hid hblk2
          clear hlp hrp hrp2 hrw hg3 hg2 hblk2
          go_wp2_with fail
          refine C1.out.mono ?_
          rintro e w3 ⟨A3, c3, rfl, hown, hx3⟩
          rw [Hlp.out] at hown ⊢
          have Hown := Lib.hid hown; have Hx3 := Lib.hid hx3; clear hown hx3
          go_wp2_with fail
          refine leaves_cons (f := 215) (args := #[.pointer (some ⟨w.heap.size + 1, 0, none⟩), .pointer (some ⟨w.heap.size, 0, none⟩)]) (by simp) (by simp [go_sem]) ?_
          refine (undo_idle _ _ _).mono ?_
          rintro e u' w4 ⟨rfl, rfl, rfl⟩
          refine ⟨_, results_tmp3 rfl _ _ _, grown_ext Hg3.out Hx3.out, .inr (.inr ⟨HL1.out, ⟨A3, c3, ?_, ?_⟩, A2, m - L, d - L, blk_ext Hblk2.out Hx3.out, ?_, by omega, ?_, ?_⟩)⟩
          · rw [Hlp.out]; rfl
          · rw [Hlp.out]; exact own_base Hown.out Hg3.out.size
          · rw [Hrest.out, List.length_drop, List.length_drop, Hl.out]; have := Hm.out; omega
          · rw [Hrest.out, vals_drop]; exact Hrd2.out w3 _ (by rw [vals_len, List.length_drop, Hl.out]; have := Hm.out; omega) (Hrp.out.ext Hx3.out)
          · intro a ha
            obtain ⟨a2, ha2, hb2⟩ := HA2.out a' rfl
            rw [ha] at ha2
            injection ha2 with ha2
            subst ha2
            rw [hb2, Hab.out]; exact hbS

theorem rd_ne {w : World} {r n c : Nat} {A B : Option Addr} {cl : Bool} {t : TypeId} {ws : List Nat} {a : Addr} (h : w.heap[r]? = some (.cells #[.slice A n c, .bool cl] t (0, 0))) (hr : Rd w B (vals .u8 ws)) (ha : B = some a) (hws : ws ≠ []) : a.block ≠ r := by
  rintro rfl
  cases ws with
  | nil => exact hws rfl
  | cons x t =>
    obtain ⟨b, off, hB, hc⟩ := hr (by simp [vals])
    rw [ha] at hB
    injection hB with hB
    subst hB
    have h1 := hc 0 _ rfl
    rw [Nat.add_zero, blk_cell h off] at h1
    match off, h1 with
    | 0, h1 => simp at h1
    | 1, h1 => simp at h1
    | _ + 2, h1 => simp at h1
theorem headF_few {ws : List Nat} (h : ws.length < 4) : headF ws = 0 := by unfold headF; rw [if_pos h]

theorem next_any (w : World) (r : Nat) (S : Nat → Prop) (ws : List Nat) (h : IsRdr w r ws false S) (hb : ∀ x ∈ ws, x < 256) (hN : ws.length ≤ 9223372036854775807) :
    Calls Tryz.prog 157 #[.pointer (some ⟨r, 0, none⟩)] w (NextR ws w r S) := by
  obtain ⟨A, n, c, hblk, hl, hnc, hr, hAS⟩ := h
  by_cases hn : n < 4
  · refine (next_wait0 w r A n c hblk hn).mono ?_
    rintro e w' ⟨he, hb', hg⟩
    have hne : ∀ a, A = some a → ws ≠ [] → a.block ≠ r := fun a ha hws => rd_ne hblk hr ha hws
    refine ⟨hg, .inl ⟨headF_few (by omega), he, A, n, c, hb', hl, hnc, ?_, hAS⟩⟩
    by_cases hws : ws = []
    · subst hws; exact Rd.nil _ _
    · exact hr.grown hg (fun a ha hr' => hne a ha hws (by injection hr' with hr'; exact hr'.symm))
  · have hws : ws ≠ [] := by rintro rfl; simp at hl; omega
    obtain ⟨b, off, rfl, _⟩ := hr (by simpa [vals] using hws)
    obtain ⟨A', hsl, hrd, hA'⟩ := slice_from_any Tryz.underlying32 size_u8 (A := some ⟨b, off, none⟩) (n := n) (c := c) (m := n - 4) (d := c - 4) 4 (ki := ((4 : Nat) : Int)) rfl hnc (by omega) (by omega)
    exact next_head w r b off n c (n - 4) (c - 4) S A' ws hblk (by omega) hnc (by omega) (by omega) hl hb hr (rd_ne hblk hr rfl hws) (hAS _ rfl) (by omega) hsl hrd (hA' _ rfl)
end

section
open Go.RowKit

/-- what a reader gives up with -/
abbrev Wrong : Ending := .panicked [{ v := .iface 290 (.agg #[]), recovered := false }]
theorem must_ok (w : World) (r : Value) : Calls Tryz.prog 115 #[r, .bool true] w fun e w' => e = .returned (.tuple #[]) ∧ w = w' := by
  go_enter Tryz.func115, Tryz.ntmps115
  go_wp2_with fail
  go_end0
  exact ⟨rfl, rfl⟩
theorem must_no (w : World) (r : Value) : Calls Tryz.prog 115 #[r, .bool false] w fun e w' => e = Wrong ∧ w = w' := by
  go_enter Tryz.func115, Tryz.ntmps115
  go_wp2_with fail
  exact ⟨rfl, rfl, rfl⟩
/-- a reader in memory -/
def IsWr (w : World) (r : Nat) (A : Option Addr) (n c : Nat) : Prop := w.heap[r]? = some (.cells #[.slice A n c] 292 (0, 0))
set_option maxHeartbeats 1000000 in
theorem wtake_few (w : World) (r : Nat) (k : Int) (A : Option Addr) (n c : Nat) (h : IsWr w r A n c) (hk : (n : Int) < k) :
    Calls Tryz.prog 114 #[.pointer (some ⟨r, 0, none⟩), .int .i64 k] w fun e w' => e = Wrong ∧ w = w' := by
  have h0 : w.cell? ⟨r, 0, none⟩ = some (.slice A n c) := blk_cell h 0
  have hd : decide (k ≤ (n : Int)) = false := by simp; omega
  have H := Lib.hid h; clear h
  go_enter Tryz.func114, Tryz.ntmps114
  go_wp2_with fail
  refine (must_no _ _).mono ?_
  rintro e w' ⟨rfl, rfl⟩
  exact ⟨rfl, rfl, rfl⟩
set_option maxHeartbeats 1000000 in
theorem wtake_some (w : World) (r k : Nat) (A : Option Addr) (n c m d : Nat) (h : IsWr w r A n c) (hk : k ≤ n) (hnc : n ≤ c) (A' : Option Addr)
    (hsl : ∀ u : World, (Instr.slice 32 (.slice A n c) (some (.int .i64 (k : Int))) none none).run Tryz.prog u = .ok (.slice A' m d) u) :
    Calls Tryz.prog 114 #[.pointer (some ⟨r, 0, none⟩), .int .i64 (k : Int)] w fun e w' => e = .returned (.slice A k c) ∧ w.setCell ⟨r, 0, none⟩ (.slice A' m d) = w' := by
  have h0 : w.cell? ⟨r, 0, none⟩ = some (.slice A n c) := blk_cell h 0
  have hf := blk_frozen h 0
  have hd : decide ((k : Int) ≤ (n : Int)) = true := by simp; omega
  have H := Lib.hid h; clear h
  go_enter Tryz.func114, Tryz.ntmps114
  go_wp2_with fail
  refine (must_ok _ _).mono ?_
  rintro e w' ⟨rfl, rfl⟩
  go_wp2_with fail
  go_ret
  exact ⟨rfl, rfl⟩

/-- a reader with the bytes that are still to come -/
def IsWs (w : World) (r S : Nat) (zs : List Nat) : Prop := ∃ A c, IsWr w r A zs.length c ∧ zs.length ≤ c ∧ Rd w A (vals .u8 zs) ∧ (zs ≠ [] → ∀ a, A = some a → a.block ≠ r ∧ a.block < S)
theorem IsWs.ext {w w' : World} {r S : Nat} {zs : List Nat} (h : IsWs w r S zs) (hx : Ext w w') : IsWs w' r S zs := by
  obtain ⟨A, c, h1, h2, h3, h4⟩ := h
  exact ⟨A, c, blk_ext h1 hx, h2, h3.ext hx, h4⟩
theorem IsWs.grown {w w' : World} {r S : Nat} {zs : List Nat} (h : IsWs w r S zs) {row : Option Nat} (hg : w.grownBy w' row) (h1 : ∀ k, row = some k → k ≠ r ∧ S ≤ k) : IsWs w' r S zs := by
  obtain ⟨A, c, k1, k2, k3, k4⟩ := h
  refine ⟨A, c, (hg.block r (blk_lt k1) (fun e => (h1 r e.symm).1 rfl)).trans k1, k2, ?_, k4⟩
  by_cases hz : zs = []
  · subst hz; exact Rd.nil _ _
  · exact k3.grown hg (fun a ha e => by have := (h1 _ e).2; have := (k4 hz a ha).2; omega)
theorem IsWs.lt {w : World} {r S : Nat} {zs : List Nat} (h : IsWs w r S zs) : r < w.heap.size := by
  obtain ⟨A, c, h1, _⟩ := h
  exact blk_lt h1
/-- what take leaves -/
def TakeR (zs : List Nat) (k : Nat) (w : World) (r S : Nat) (e : Ending) (w' : World) : Prop :=
  ∃ A c, e = .returned (.slice A k c) ∧ k ≤ c ∧ Rd w' A (vals .u8 (zs.take k)) ∧ IsWs w' r S (zs.drop k) ∧ w.grownBy w' (some r) ∧ w.heap.size = w'.heap.size ∧ (zs ≠ [] → ∀ a, A = some a → a.block ≠ r ∧ a.block < S)
theorem wtake_ok (w : World) (r S k : Nat) (zs : List Nat) (h : IsWs w r S zs) (hk : k ≤ zs.length) :
    Calls Tryz.prog 114 #[.pointer (some ⟨r, 0, none⟩), .int .i64 (k : Int)] w (TakeR zs k w r S) := by
  obtain ⟨A, c, h1, h2, h3, h4⟩ := h
  obtain ⟨A', hsl, hrd, hA'⟩ := slice_from_any Tryz.underlying32 size_u8 (A := A) (n := zs.length) (c := c) (m := zs.length - k) (d := c - k) k (ki := (k : Int)) rfl h2 (by omega) (by omega)
  refine (wtake_some w r k A zs.length c (zs.length - k) (c - k) h1 hk h2 A' hsl).mono ?_
  rintro e w' ⟨rfl, rfl⟩
  have hg := grown_set w r 0 (.slice A' (zs.length - k) (c - k))
  have hr : Rd (w.setCell ⟨r, 0, none⟩ (.slice A' (zs.length - k) (c - k))) A (vals .u8 zs) := by
    by_cases hz : zs = []
    · subst hz; exact Rd.nil _ _
    · exact h3.grown hg (fun a ha e => (h4 hz a ha).1 (by injection e with e; exact e.symm))
  refine ⟨A, c, rfl, by omega, ?_, ⟨A', c - k, ?_, ?_, ?_, ?_⟩, hg, by simp, h4⟩
  · exact rd_take (ys := zs.drop k) (by rw [List.take_append_drop]; exact hr)
  · rw [List.length_drop]
    exact blk_set h1 0 _
  · rw [List.length_drop]; omega
  · rw [vals_drop]; exact hrd _ _ (vals_len _ _) hr
  · intro hz a ha
    have hz' : zs ≠ [] := by rintro rfl; simp at hz
    obtain ⟨b, off, hA, _⟩ := h3 (by simpa [vals] using hz')
    obtain ⟨a', ha', hb⟩ := hA' _ hA
    rw [ha] at ha'
    injection ha' with ha'
    subst ha'
    rw [hb]
    exact h4 hz' _ hA
theorem wtake_no (w : World) (r S : Nat) (k : Nat) (zs : List Nat) (h : IsWs w r S zs) (hk : zs.length < k) :
    Calls Tryz.prog 114 #[.pointer (some ⟨r, 0, none⟩), .int .i64 (k : Int)] w fun e w' => e = Wrong ∧ w = w' := by
  obtain ⟨A, c, h1, h2, h3, h4⟩ := h
  exact wtake_few w r k A zs.length c h1 (by omega)

/-- what number leaves -/
def NumR (zs : List Nat) (w : World) (r S : Nat) (e : Ending) (w' : World) : Prop :=
  w.grownBy w' (some r) ∧ w.heap.size = w'.heap.size ∧ ((8 ≤ zs.length ∧ numB (zs.take 8) ≤ 4611686018427387903 ∧ e = .returned (.int .i64 (numB (zs.take 8) : Int)) ∧ IsWs w' r S (zs.drop 8)) ∨ (¬ (8 ≤ zs.length ∧ numB (zs.take 8) ≤ 4611686018427387903) ∧ e = Wrong))
set_option maxHeartbeats 2000000 in
theorem wnumber_any (w : World) (r S : Nat) (zs : List Nat) (hb : ∀ x ∈ zs, x < 256) (h : IsWs w r S zs) :
    Calls Tryz.prog 116 #[.pointer (some ⟨r, 0, none⟩)] w (NumR zs w r S) := by
  by_cases h8 : 8 ≤ zs.length
  · have C := Lib.hid (wtake_ok w r S 8 zs h h8)
    have hl8 : (zs.take 8).length = 8 := by rw [List.length_take]; omega
    have hb8 : ∀ x ∈ zs.take 8, x < 256 := fun x hx => hb x (List.mem_of_mem_take hx)
    have Hl8 := Lib.hid hl8; have Hb8 := Lib.hid hb8; clear hl8 hb8
    unfold NumR
    obtain ⟨ys, hys⟩ : ∃ ys, zs.take 8 = ys := ⟨_, rfl⟩
    rw [hys] at Hl8 Hb8 ⊢
    have Hys := Lib.hid hys; clear hys
    go_enter Tryz.func116, Tryz.ntmps116
    go_wp2_with fail
    refine C.out.mono ?_
    rintro e w1 ⟨A, c, rfl, hc, hr, hS, hg, hz, _⟩
    rw [Hys.out] at hr
    have HR := Lib.hid hr; have HS := Lib.hid hS; have HG := Lib.hid hg; have hsz : w.heap.size = w1.heap.size := hz; clear hr hS hg C hz
    go_wp2_with fail
    go_loop [3, 9] (fun x i => ∃ k : Nat, k ≤ 8 ∧ i = .int .i64 k ∧ x = .int .u64 ((numB (ys.take k) : Nat) : Int)) (fun _ i => 8 - (intOf i).toNat)
    case atStart => exact ⟨0, Nat.zero_le _, rfl, by rw [List.take_zero, numB_nil]; rfl⟩
    case round =>
      obtain ⟨k, hk, rfl, rfl⟩ := hrel
      by_cases hlt : k < 8
      · obtain ⟨x, hx⟩ := get_of_lt (xs := ys) (j := k) (by rw [Hl8.out]; exact hlt)
        have hx256 : x < 256 := Hb8.out x (List.mem_of_getElem? hx)
        obtain ⟨b, off, hA, hc⟩ := HR.out.at_ hx
        subst hA
        have hnl := numB_lt (ys.take k) (fun y hy => Hb8.out y (List.mem_of_mem_take hy))
        have hle : numB (ys.take k) < 72057594037927936 := by
          refine Nat.lt_of_lt_of_le hnl ?_
          rw [show (72057594037927936 : Nat) = 256 ^ 7 by rfl]
          exact Nat.pow_le_pow_right (by omega) (by rw [List.length_take, Hl8.out]; omega)
        have Hx := Lib.hid hx; clear hx hnl
        go_wp2
        go_round
        case rel => exact ⟨k + 1, by omega, by go_num, by rw [take_succ_of Hx.out, numB_snoc, or_byte64 _ _ hle hx256]⟩
        case measure => simp [intOf]; omega
      · obtain rfl : k = 8 := by omega
        have e1 : ys.take 8 = ys := List.take_of_length_le (by rw [Hl8.out]; omega)
        rw [e1]
        have hlt := numB_lt_of ys Hb8.out (by rw [Hl8.out]; omega)
        clear e1
        obtain ⟨s, hsE⟩ : ∃ s, numB ys = s := ⟨_, rfl⟩
        rw [hsE] at hlt ⊢
        have HsE := Lib.hid hsE; clear hsE
        by_cases hs : s ≤ 4611686018427387903
        · have hd : decide ((s : Int) ≤ 4611686018427387903) = true := by simp; omega
          go_wp2_with fail
          refine (must_ok _ _).mono ?_
          rintro e w' ⟨rfl, rfl⟩
          have w1s : IntKind.i64.wrap (s : Int) = (s : Int) := by rw [IntKind.wrap_i64]; omega
          go_wp2_with fail
          go_ret
          exact ⟨HG.out, hsz, .inl ⟨h8, by rw [HsE.out]; exact hs, by rw [HsE.out]; rfl, HS.out⟩⟩
        · have hd : decide ((s : Int) ≤ 4611686018427387903) = false := by simp; omega
          go_wp2_with fail
          refine (must_no _ _).mono ?_
          rintro e w' ⟨rfl, rfl⟩
          exact ⟨rfl, HG.out, hsz, .inr ⟨fun hh => hs (by have := hh.2; rwa [HsE.out] at this), rfl⟩⟩
  · go_enter Tryz.func116, Tryz.ntmps116
    go_wp2_with fail
    refine (wtake_no w r S 8 zs h (by omega)).mono ?_
    rintro e w' ⟨rfl, rfl⟩
    exact ⟨rfl, World.grownBy.refl _ _, rfl, .inr ⟨fun hh => h8 hh.1, rfl⟩⟩
end

section
open Go.RowKit

theorem ret_call1 {fn : Func} (h : fn.results = #[.cell 2 34]) {tmps : Array Value} {w : World} {g : Nat} {a b c d : Value} {t : TypeId} {fr : Nat × Nat} (hp : tmps.getD 2 undef = .pointer (some ⟨g, 0, none⟩)) (hg : w.heap[g]? = some (.cells #[a, b, c, d] t fr)) :
    (results fn tmps).run Tryz.prog w = .ok (.agg #[a, b, c, d]) w :=
  results_cell_row h tmps w g t #[a, b, c, d] fr _ hp hg Tryz.underlying34 (by rfl) (by kernel_rfl)
/-- what call leaves of a right call's bytes -/
def CallR (op p : Nat) (xs : List Nat) (N : Nat) (rest : List Nat) (w : World) (r S : Nat) (e : Ending) (w' : World) : Prop :=
  ∃ A c, e = .returned (callV (op : Int) (p : Int) A xs.length c (N : Int)) ∧ w'.ownsRow w.heap.size 5 1 (.slice A xs.length c) xs.length (vals .u8 xs) ∧ IsWs w' r S rest ∧ w.grownBy w' (some r)
def WrongR (w : World) (r : Nat) (e : Ending) (w' : World) : Prop := e = Wrong ∧ w.grownBy w' (some r)

theorem head_cell {w : World} {A : Option Addr} {x : Nat} {t : List Nat} (h : Rd w A (vals .u8 (x :: t))) : ∃ b off, A = some ⟨b, off, none⟩ ∧ w.cell? ⟨b, off, none⟩ = some (.int .u8 (x : Int)) := by
  obtain ⟨b, off, hA, hc⟩ := h (by simp [vals])
  exact ⟨b, off, hA, hc 0 _ rfl⟩

theorem grown_setNew {w a : World} {row : Option Nat} (h : w.grownBy a row) {g : Nat} (hg : w.heap.size ≤ g) (i : Nat) (u : Value) : w.grownBy (a.setCell ⟨g, i, none⟩ u) row :=
  ⟨h.os, h.tape, h.output, by simpa using h.size, fun k hk hne => (heap_setCell_other a ⟨g, i, none⟩ k u (by simp; omega)).trans (h.block k hk hne)⟩
theorem grown_row4 {w a : World} {row : Option Nat} (h : w.grownBy a row) {g : Nat} (hg : w.heap.size ≤ g) (x y z u : Value) : w.grownBy ((((a.setCell ⟨g, 0, none⟩ x).setCell ⟨g, 1, none⟩ y).setCell ⟨g, 2, none⟩ z).setCell ⟨g, 3, none⟩ u) row :=
  grown_setNew (grown_setNew (grown_setNew (grown_setNew h hg 0 x) hg 1 y) hg 2 z) hg 3 u
theorem ws_row4 {w : World} {r S g : Nat} {zs : List Nat} (h : IsWs w r S zs) (hr : r < g) (hS : S ≤ g) (x y z u : Value) : IsWs ((((w.setCell ⟨g, 0, none⟩ x).setCell ⟨g, 1, none⟩ y).setCell ⟨g, 2, none⟩ z).setCell ⟨g, 3, none⟩ u) r S zs :=
  h.grown (grown_setCell (grown_setCell (grown_setCell (grown_set w g 0 x) 1 y) 2 z) 3 u) (fun k hk => by injection hk with hk; omega)
theorem call_nil (w : World) (r S : Nat) (h : IsWs w r S []) :
    Calls Tryz.prog 159 #[.pointer (some ⟨r, 0, none⟩)] w (WrongR w r) := by
  have H := Lib.hid (fun o : Obj => h.ext ((Ext.refl w).alloc o)); clear h
  go_enter Tryz.func159, Tryz.ntmps159
  go_wp2_with fail
  refine (wtake_no _ r S 1 [] (H.out _) (by decide)).mono ?_
  rintro e w' ⟨rfl, rfl⟩
  exact ⟨rfl, rfl, grown_none ((Ext.refl w).alloc _) _⟩

set_option maxHeartbeats 2000000 in
theorem call56 (w : World) (r S o : Nat) (hSw : S ≤ w.heap.size) (ho : o = 5 ∨ o = 6) (rest : List Nat) (h : IsWs w r S (o :: rest)) :
    Calls Tryz.prog 159 #[.pointer (some ⟨r, 0, none⟩)] w (CallR o 0 [] 0 rest w r S) := by
  have q1 : ((o : Int) == 1) = false := by rw [beq_eq_false_iff_ne]; omega
  have q2 : ((o : Int) == 2) = false := by rw [beq_eq_false_iff_ne]; omega
  have q3 : ((o : Int) == 3) = false := by rw [beq_eq_false_iff_ne]; omega
  have q4 : ((o : Int) == 4) = false := by rw [beq_eq_false_iff_ne]; omega
  have q5 : ((o : Int) == 5) = true ∨ (((o : Int) == 5) = false ∧ ((o : Int) == 6) = true) := by
    rcases ho with h | h
    · left; rw [beq_iff_eq]; omega
    · right; exact ⟨by rw [beq_eq_false_iff_ne]; omega, by rw [beq_iff_eq]; omega⟩
  have hr := h.lt
  have H := Lib.hid (fun o : Obj => h.ext ((Ext.refl w).alloc o)); clear h ho
  rcases q5 with q5 | ⟨q5, q6⟩
  all_goals
    go_enter Tryz.func159, Tryz.ntmps159
    go_wp2_with fail
    refine (wtake_ok _ r S 1 _ (H.out _) (by simp)).mono ?_
    rintro e w1 ⟨A, c, rfl, hc, hR, hS, hg, hz, hbl⟩
    obtain ⟨b, off, rfl, hc0⟩ := head_cell hR
    have K2 := Lib.hid (blk_grown (blk_new w _) hg (by omega))
    have HS := Lib.hid hS; have HG := Lib.hid hg
    rw [World.size_alloc] at hz
    clear hR hS hg
    go_wp2_with fail
    refine (must_ok _ _).mono ?_
    rintro e w' ⟨rfl, rfl⟩
    have k0 := cell_past (blk_cell K2.out 0); have k1 := cell_past (blk_cell K2.out 1); have k2 := cell_past (blk_cell K2.out 2); have k3 := cell_past (blk_cell K2.out 3)
    have f0 := fz_past K2.out 0; have f1 := fz_past K2.out 1; have f2 := fz_past K2.out 2; have f3 := fz_past K2.out 3
    go_wp2_with fail
    refine bodyPost_ret (ret_call1 rfl rfl (row4 (blk_past K2.out _) _ _ _ _)) rfl ?_
    exact ⟨none, 0, rfl, World.ownsRow_nil _ _ _ _, ws_row4 (HS.out.ext ((Ext.refl w1).alloc _)) (by omega) hSw _ _ _ _, grown_row4 (grown_alloc (World.grown_trans (grown_none ((Ext.refl w).alloc _) _) HG.out) _) (Nat.le_refl _) _ _ _ _⟩

theorem cell_otherD {w : World} {p : Addr} {v : Value} {g i : Nat} {u : Value} (h : w.cell? p = some v) (hne : p.block ≠ g) : (w.setCell ⟨g, i, none⟩ u).drew.cell? p = some v := cell_other h hne
theorem blk_grown' {w w' : World} {g r : Nat} {o : Obj} (h : w.heap[g]? = some o) (hg : w.grownBy w' (some r)) (hne : g ≠ r) : w'.heap[g]? = some o := blk_grown h hg hne
theorem own_row4 {w : World} {B g n c : Nat} {e : TypeId} {A : Option Addr} {xs : List Value} (h : w.ownsRow B e 1 (.slice A n c) n xs) (hg : g < B) (x y z u : Value) : ((((w.setCell ⟨g, 0, none⟩ x).setCell ⟨g, 1, none⟩ y).setCell ⟨g, 2, none⟩ z).setCell ⟨g, 3, none⟩ u).ownsRow g e 1 (.slice A n c) n xs :=
  own_base (h.kept (grown_setCell (grown_setCell (grown_setCell (grown_set w g 0 x) 1 y) 2 z) 3 u) (own_ne h hg)) (Nat.le_of_lt hg)
theorem call_op (w : World) (r S o : Nat) (_hSw : S ≤ w.heap.size) (ho : o = 0 ∨ 7 ≤ o) (rest : List Nat) (h : IsWs w r S (o :: rest)) :
    Calls Tryz.prog 159 #[.pointer (some ⟨r, 0, none⟩)] w (WrongR w r) := by
  have q1 : ((o : Int) == 1) = false := by rw [beq_eq_false_iff_ne]; omega
  have q2 : ((o : Int) == 2) = false := by rw [beq_eq_false_iff_ne]; omega
  have q3 : ((o : Int) == 3) = false := by rw [beq_eq_false_iff_ne]; omega
  have q4 : ((o : Int) == 4) = false := by rw [beq_eq_false_iff_ne]; omega
  have q5 : ((o : Int) == 5) = false := by rw [beq_eq_false_iff_ne]; omega
  have q6 : ((o : Int) == 6) = false := by rw [beq_eq_false_iff_ne]; omega
  have hr := h.lt
  have H := Lib.hid (fun o : Obj => h.ext ((Ext.refl w).alloc o)); clear h ho
  go_enter Tryz.func159, Tryz.ntmps159
  go_wp2_with fail
  refine (wtake_ok _ r S 1 _ (H.out _) (by simp)).mono ?_
  rintro e w1 ⟨A, c, rfl, hc, hR, hS, hg, hz, hbl⟩
  obtain ⟨b, off, rfl, hc0⟩ := head_cell hR
  have HG := Lib.hid hg
  clear hR hS hg hz
  go_wp2_with fail
  refine (must_no _ _).mono ?_
  rintro e w' ⟨rfl, rfl⟩
  exact ⟨rfl, rfl, grown_alloc (World.grown_trans (grown_none ((Ext.refl w).alloc _) _) HG.out) _⟩

/-- what the switch of call leaves -/
def CallMid (op p : Nat) (xs : List Nat) (N : Nat) (rest : List Nat) (w : World) (r S g : Nat) (wd : World) : Prop :=
  ∃ A c, wd.heap[g]? = some (.cells #[.int .u8 (op : Int), .int .i64 (p : Int), .slice A xs.length c, .int .i64 (N : Int)] 34 (0, 0)) ∧
    wd.heap[w.heap.size]? = some (.cells #[.int .u8 0, .int .i64 0, .slice none 0 0, .int .i64 0] 34 (0, 0)) ∧
    wd.ownsRow (w.heap.size + 1) 5 1 (.slice A xs.length c) xs.length (vals .u8 xs) ∧ IsWs wd r S rest ∧ w.grownBy wd (some r)
set_option maxHeartbeats 4000000 in
set_option maxRecDepth 100000 in
theorem call3_ok (w : World) (r S p N : Nat) (xs : List Nat) (hSw : S ≤ w.heap.size) (hb : ∀ x ∈ xs, x < 256) (hp : p < 32) (h1 : 1 ≤ N) (h2 : N ≤ 4611686018427387903) (hx : xs.length ≤ 255) (h : IsWs w r S (3 :: tokB p xs N)) :
    Calls Tryz.prog 159 #[.pointer (some ⟨r, 0, none⟩)] w (CallR 3 p xs N [] w r S) := by
  have hr := h.lt
  have H := Lib.hid (fun o : Obj => h.ext ((Ext.refl w).alloc o)); clear h
  have HL := Lib.hid (tokB_len p xs N)
  have Hb := Lib.hid hb; clear hb
  go_enter Tryz.func159, Tryz.ntmps159
  go_wp2_with fail
  refine (wtake_ok _ r S 1 _ (H.out _) (by simp)).mono ?_
  rintro e w1 ⟨A, c, rfl, hc, hR, hS, hg, hz, hbl⟩
  obtain ⟨b, off, rfl, hc0⟩ := head_cell hR
  have K2 := Lib.hid (blk_grown (blk_new w _) hg (by omega))
  have HS := Lib.hid (show IsWs w1 r S (tokB p xs N) from hS); have HG := Lib.hid hg
  rw [World.size_alloc] at hz
  clear hR hS hg
  go_upto_block 0 with fail
  go_cut [6] (fun _ wd => CallMid 3 p xs N [] w r S w1.heap.size wd)
  case first =>
    obtain ⟨A1, c1, hw1, _, _, _⟩ := HS.out
    have h0 := cell_past (blk_cell hw1 0)
    clear hw1
    go_wp2_with fail
    refine (wtake_ok _ r S (tokB p xs N).length _ (HS.out.ext ((Ext.refl w1).alloc _)) (Nat.le_refl _)).mono ?_
    rintro e w2 ⟨A2, c2, rfl, hc2, hR2, hS2, hg2, hz2, hbl2⟩
    rw [List.take_length] at hR2
    rw [List.drop_length] at hS2
    rw [World.size_alloc] at hz2
    have K3 := Lib.hid (blk_grown (blk_new w1 _) hg2 (by omega))
    have K2' := Lib.hid (blk_grown (blk_past K2.out _) hg2 (by omega))
    have HS2 := Lib.hid hS2
    have hgA := World.grown_trans (grown_alloc (World.grown_trans (grown_none ((Ext.refl w).alloc (.cells #[.int .u8 0, .int .i64 0, .slice none 0 0, .int .i64 0] 34)) (some r)) HG.out) _) hg2
    have HGA := Lib.hid hgA
    have C := Lib.hid (decode_ok w2 p N xs.length A2 (tokB p xs N).length c2 xs rfl HL.out Hb.out hR2 hc2 h1 h2 hp hx)
    clear hS2 hg2 hgA hR2 h0 HS K2 hc0
    go_wp2_with fail
    refine C.out.mono ?_
    rintro e w3 ⟨A3, c3, rfl, hown3, hy3⟩
    have K3' := Lib.hid (blk_ext K3.out hy3); have K2 := Lib.hid (blk_ext K2'.out hy3)
    have HS3 := Lib.hid (HS2.out.ext hy3)
    have HG3 := Lib.hid (grown_ext HGA.out hy3)
    have Hown := Lib.hid hown3
    have hs3 : w2.heap.size ≤ w3.heap.size := hy3.size
    clear hown3 HS2 HGA K3 K2' C
    go_wp2_with fail
    refine (must_ok _ _).mono ?_
    rintro e w' ⟨rfl, rfl⟩
    obtain ⟨W, hW⟩ : ∃ W, w3.alloc (.cells #[.int .i64 (p : Int), .slice A3 xs.length c3, .int .i64 (N : Int)] 120) = W := ⟨_, rfl⟩
    have hyW : Ext w3 W := by rw [← hW]; exact (Ext.refl w3).alloc _
    have KT : Hid (W.heap[w3.heap.size]? = some (.cells #[.int .i64 (p : Int), .slice A3 xs.length c3, .int .i64 (N : Int)] 120 (0, 0))) := by rw [← hW]; exact blk_new _ _
    have KC := Lib.hid (blk_ext K3'.out hyW); have KR := Lib.hid (blk_ext K2.out hyW)
    have HSW := Lib.hid (HS3.out.ext hyW)
    have HGW := Lib.hid (grown_ext HG3.out hyW)
    have HoW := Lib.hid (own_ext Hown.out hyW)
    rw [hW]
    clear hW hyW K3' K2 HS3 HG3 Hown
    have t0 := blk_cell KT.out 0; have t1 := blk_cell KT.out 1; have t2 := blk_cell KT.out 2
    have u0 := blk_cell KC.out 0; have u1 := blk_cell KC.out 1; have u2 := blk_cell KC.out 2; have u3 := blk_cell KC.out 3
    have f0 := blk_frozen KC.out 0; have f1 := blk_frozen KC.out 1; have f2 := blk_frozen KC.out 2; have f3 := blk_frozen KC.out 3
    have hne : w3.heap.size ≠ w1.heap.size := by omega
    go_upto_region 7 with fail
    go_region_held3 (fun w' => w'.cell? ⟨w3.heap.size, 0, none⟩ = some (.int .i64 (p : Int)) ∧ w'.cell? ⟨w3.heap.size, 1, none⟩ = some (.slice A3 xs.length c3) ∧ w'.cell? ⟨w3.heap.size, 2, none⟩ = some (.int .i64 (N : Int))) (((try go_split_ands); refine ⟨?_, ?_, ?_⟩ <;> first | exact cell_otherD (by assumption) hne | exact cell_other (by assumption) hne | assumption)) (fail)
    go_wp2_with fail
    go_meet
    have hG := grown_drew (grown_setCell (grown_setCell (grown_set W w1.heap.size 1 (.int .i64 (p : Int))) 2 (.slice A3 xs.length c3)) 3 (.int .i64 (N : Int)))
    exact ⟨A3, c3, blk_set (blk_set (blk_set KC.out 1 _) 2 _) 3 _, blk_grown' KR.out hG (by omega), own_base (HoW.out.kept hG (own_ne HoW.out (by omega))) (by omega), HSW.out.grown hG (fun k hk => by injection hk with hk; omega), grown_new HGW.out hG (by omega)⟩
  case rest =>
    obtain ⟨A3, c3, hC, hR, ho, hS, hG⟩ := hcut
    have KC := Lib.hid hC; have KR := Lib.hid hR; have Ho := Lib.hid ho; have HSc := Lib.hid hS; have HGc := Lib.hid hG
    clear hC hR ho hS hG
    have c0 := blk_cell KC.out 0; have c1 := blk_cell KC.out 1; have c2 := blk_cell KC.out 2; have c3 := blk_cell KC.out 3
    have k0 := blk_cell KR.out 0; have k1 := blk_cell KR.out 1; have k2 := blk_cell KR.out 2; have k3 := blk_cell KR.out 3
    have f0 := blk_frozen KR.out 0; have f1 := blk_frozen KR.out 1; have f2 := blk_frozen KR.out 2; have f3 := blk_frozen KR.out 3
    go_wp2_with fail
    refine bodyPost_ret (ret_call1 rfl rfl (row4 KR.out _ _ _ _)) rfl ?_
    exact ⟨A3, _, rfl, own_row4 Ho.out (by omega) _ _ _ _, ws_row4 HSc.out (by omega) hSw _ _ _ _, grown_row4 HGc.out (Nat.le_refl _) _ _ _ _⟩
set_option maxHeartbeats 4000000 in
set_option maxRecDepth 100000 in
theorem call3_bad (w : World) (r S : Nat) (ts : List Nat) (_hSw : S ≤ w.heap.size) (hb : ∀ x ∈ ts, x < 256) (hl : ts.length ≤ 4096) (hno : ¬ IsTok ts) (h : IsWs w r S (3 :: ts)) :
    Calls Tryz.prog 159 #[.pointer (some ⟨r, 0, none⟩)] w (WrongR w r) := by
  have hr := h.lt
  have H := Lib.hid (fun o : Obj => h.ext ((Ext.refl w).alloc o)); clear h
  have Hb := Lib.hid hb; have Hno := Lib.hid hno; clear hb hno
  go_enter Tryz.func159, Tryz.ntmps159
  go_wp2_with fail
  refine (wtake_ok _ r S 1 _ (H.out _) (by simp)).mono ?_
  rintro e w1 ⟨A, c, rfl, hc, hR, hS, hg, hz, hbl⟩
  obtain ⟨b, off, rfl, hc0⟩ := head_cell hR
  have HS := Lib.hid (show IsWs w1 r S ts from hS); have HG := Lib.hid hg
  rw [World.size_alloc] at hz
  clear hR hS hg
  obtain ⟨A1, c1, hw1, _, _, _⟩ := HS.out
  have h0 := cell_past (blk_cell hw1 0)
  clear hw1
  go_wp2_with fail
  refine (wtake_ok _ r S ts.length _ (HS.out.ext ((Ext.refl w1).alloc _)) (Nat.le_refl _)).mono ?_
  rintro e w2 ⟨A2, c2, rfl, hc2, hR2, hS2, hg2, hz2, hbl2⟩
  rw [List.take_length] at hR2
  have hgA := World.grown_trans (grown_alloc (World.grown_trans (grown_none ((Ext.refl w).alloc (.cells #[.int .u8 0, .int .i64 0, .slice none 0 0, .int .i64 0] 34)) (some r)) HG.out) _) hg2
  have HGA := Lib.hid hgA
  have C := Lib.hid (decode_none w2 A2 ts.length c2 ts rfl Hb.out hR2 hc2 hl Hno.out)
  clear hS2 hg2 hgA hR2 h0 HS hc0
  go_wp2_with fail
  refine C.out.mono ?_
  rintro e w3 ⟨rfl, hy3⟩
  have HG3 := Lib.hid (grown_ext HGA.out hy3)
  clear HGA C
  go_wp2_with fail
  refine (must_no _ _).mono ?_
  rintro e w' ⟨rfl, rfl⟩
  exact ⟨rfl, rfl, grown_alloc HG3.out _⟩
end

section
open Go.RowKit

theorem rd_none {w : World} {xs : List Nat} (h : Rd w none (vals .u8 xs)) : xs = [] := by
  cases xs with
  | nil => rfl
  | cons x t =>
    obtain ⟨b, off, hA, _⟩ := h (by simp [vals])
    cases hA
theorem clone_any (A : Option Addr) (n c : Nat) (xs : List Nat) (w : World) (hl : xs.length = n) (hn : n ≤ 140737488355328) (hr : Rd w A (vals .u8 xs)) :
    Calls Tryz.prog 67 #[.slice A n c] w (RetB xs w) := by
  cases A with
  | none =>
    have := rd_none hr
    subst this
    exact (clone_nil w n c).mono fun e w' ⟨he, hw⟩ => ⟨none, 0, he, World.ownsRow_nil _ _ _ _, hw ▸ Ext.refl w⟩
  | some a => exact clone_some a n c xs w hl hn hr

theorem info_bb : (Tryz.prog.info? 32).map (fun i => (i.zero, i.size, i.bytes)) = some (some (.slice none 0 0), 1, 24) := by kernel_rfl
/-- append onto a list of lists of bytes of the call's own -/
theorem app_bb {ops : Array Oper} {rest : List Oper} {o : Oper} {a : Act} {Q : Exit → Act → World → Prop} (w : World) (hgd : o.guard = none) (s x : Operand)
    (ho : o.op = .call { callee := .builtin .append, args := #[s, x], argTypes := #[176, 176] })
    (base : Nat) {B : Option Addr} {n cb : Nat} {xs : List Value} (hs : a.eval s = .slice B n cb) (hown : w.ownsRow base 32 1 (.slice B n cb) n xs)
    {A : Option Addr} {m c : Nat} {news : List Value} (hx : a.eval x = .slice A m c) (hl : news.length = m) (hr : Rd w A news) (h1 : ∀ u ∈ news, u.oneCell' = true) (hb : (n + m) * 24 ≤ 140737488355328) (hbase : base ≤ w.heap.size)
    (h : ∀ B' cb' w', w'.ownsRow base 32 1 (.slice B' (n + m) cb') (n + m) (xs ++ news) → w.grownBy w' (Value.slice B n cb).ownBlock →
      ((Value.slice B' (n + m) cb').ownBlock = (Value.slice B n cb).ownBlock ∨ (Value.slice B' (n + m) cb').ownBlock = some w.heap.size) → wpList Tryz.prog ops Q rest (a.put o.dst (.slice B' (n + m) cb')) w') :
    wpList Tryz.prog ops Q (o :: rest) a w := by
  obtain ⟨i0, hi, hz0, hz1, hz2⟩ := info_parts info_bb
  exact wpList_append_rd w hgd s x 176 ho base 32 Tryz.underlying176 hi hz0 hz1 hz2 rfl (by decide) hs hown hx (by rw [hl, Nat.mul_one]) hr h1 (by unfold maxLen; omega) hb hbase h

/-- a list of lists of bytes, all in memory of the call's own, each in a block of its own -/
def PL (w : World) (base : Nat) (A : Option Addr) (n c : Nat) (pss : List (List Nat)) : Prop :=
  pss.length = n ∧ ∃ (vs : List Value) (gs : List Nat), w.ownsRow base 32 1 (.slice A n c) n vs ∧ gs.length = n ∧ gs.Pairwise (· < ·) ∧ (∀ g ∈ gs, g < w.heap.size) ∧
    ∀ (i : Nat) (ps : List Nat), pss[i]? = some ps → ∃ g ci : Nat, gs[i]? = some g ∧ vs[i]? = some (Value.slice (some ⟨g, 0, none⟩) ps.length ci) ∧ w.ownsRow base 5 1 (.slice (some ⟨g, 0, none⟩) ps.length ci) ps.length (vals .u8 ps)
theorem PL.nil (w : World) (base : Nat) : PL w base none 0 0 [] := ⟨rfl, [], [], World.ownsRow_nil _ _ _ _, rfl, List.Pairwise.nil, by simp, by simp⟩
theorem own_types {w : World} {base base' : Nat} {e e' : TypeId} {size size' n n' : Nat} {v v' : Value} {xs xs' : List Value} (h : w.ownsRow base e size v n xs) (h' : w.ownsRow base' e' size' v' n' xs') (hne : e ≠ e') : v.ownBlock = none ∨ v.ownBlock ≠ v'.ownBlock := by
  rcases h.2 with ⟨rfl, _⟩ | ⟨g, _, _, rfl, _, hg, _⟩
  · exact .inl rfl
  · rcases h'.2 with ⟨rfl, _⟩ | ⟨g', _, _, rfl, _, hg', _⟩
    · exact .inr (by simp [Value.ownBlock])
    · right
      intro e1
      simp only [Value.ownBlock, Option.some.injEq] at e1
      subst e1
      rw [hg] at hg'
      injection hg' with hg'
      injection hg' with _ ht
      exact hne ht
/-- kept while what lies below the world's size stays, but for the list's own head row -/
theorem PL.keep {w w' : World} {base : Nat} {A : Option Addr} {n c : Nat} {pss : List (List Nat)} (h : PL w base A n c pss) {row : Option Nat} (hg : w.grownBy w' row) (hrow : ∀ k, row = some k → k < base) : PL w' base A n c pss := by
  obtain ⟨hl, vs, gs, ho, hgl, hp, hgs, hall⟩ := h
  have ne : ∀ {v : Value} {n : Nat} {e : TypeId} {xs : List Value}, w.ownsRow base e 1 v n xs → v.ownBlock = none ∨ v.ownBlock ≠ row := by
    intro v n e xs hv
    by_cases hn : v.ownBlock = none
    · exact .inl hn
    · right
      intro e1
      cases hb : v.ownBlock with
      | none => exact hn hb
      | some k =>
        have h1 := (hv.lt k hb).1
        have h2 := hrow k (by rw [← e1, hb])
        omega
  exact ⟨hl, vs, gs, ho.kept hg (ne ho), hgl, hp, fun g hg' => Nat.lt_of_lt_of_le (hgs g hg') hg.size, fun i ps hi => by
    obtain ⟨g, ci, h1, h2, h3⟩ := hall i ps hi
    exact ⟨g, ci, h1, h2, h3.kept hg (ne h3)⟩⟩
/-- a list opened: its cells, its payloads' blocks, all below lim -/
def PLv (w : World) (base lim : Nat) (A : Option Addr) (n c : Nat) (pss : List (List Nat)) (vs : List Value) : Prop :=
  pss.length = n ∧ ∃ gs : List Nat, w.ownsRow base 32 1 (.slice A n c) n vs ∧ gs.length = n ∧ gs.Pairwise (· < ·) ∧ (∀ g ∈ gs, g < lim) ∧
      ∀ (i : Nat) (ps : List Nat), pss[i]? = some ps → ∃ g ci : Nat, gs[i]? = some g ∧ vs[i]? = some (Value.slice (some ⟨g, 0, none⟩) ps.length ci) ∧ w.ownsRow base 5 1 (.slice (some ⟨g, 0, none⟩) ps.length ci) ps.length (vals .u8 ps)
theorem PL.open_ {w w' : World} {base : Nat} {A : Option Addr} {n c : Nat} {pss : List (List Nat)} (h : PL w base A n c pss) {row : Option Nat} (hg : w.grownBy w' row) (hrow : ∀ k, row = some k → k < base) : ∃ vs, PLv w' base w.heap.size A n c pss vs := by
  obtain ⟨hl, vs, gs, ho, hgl, hp, hgs, hall⟩ := h
  have ne : ∀ {v : Value} {n : Nat} {e : TypeId} {xs : List Value}, w.ownsRow base e 1 v n xs → v.ownBlock = none ∨ v.ownBlock ≠ row := by
    intro v n e xs hv
    by_cases hn : v.ownBlock = none
    · exact .inl hn
    · right
      intro e1
      cases hb : v.ownBlock with
      | none => exact hn hb
      | some k =>
        have h1 := (hv.lt k hb).1
        have h2 := hrow k (by rw [← e1, hb])
        omega
  exact ⟨vs, hl, gs, ho.kept hg (ne ho), hgl, hp, hgs, fun i ps hi => by
    obtain ⟨g, ci, h1, h2, h3⟩ := hall i ps hi
    exact ⟨g, ci, h1, h2, h3.kept hg (ne h3)⟩⟩
theorem PLv.own {w : World} {base lim : Nat} {A : Option Addr} {n c : Nat} {pss : List (List Nat)} {vs : List Value} (h : PLv w base lim A n c pss vs) : w.ownsRow base 32 1 (.slice A n c) n vs := by
  obtain ⟨_, gs, h, _⟩ := h
  exact h

/-- one payload more -/
theorem PLv.snoc {w w1 w2 : World} {base lim : Nat} {A : Option Addr} {n c : Nat} {pss : List (List Nat)} {vs : List Value} (h : PLv w base lim A n c pss vs) {ps : List Nat} {Ap : Option Addr} {cp : Nat}
    (hp : w.ownsRow lim 5 1 (.slice Ap ps.length cp) ps.length (vals .u8 ps)) (hps : 0 < ps.length) (hbase : base ≤ lim) (hlim : lim ≤ w.heap.size) (hx : w.grownBy w1 none)
    {B' : Option Addr} {cb' : Nat} (ho : w2.ownsRow base 32 1 (.slice B' (n + 1) cb') (n + 1) (vs ++ [.slice Ap ps.length cp])) (hg : w1.grownBy w2 (Value.slice A n c).ownBlock) : PL w2 base B' (n + 1) cb' (pss ++ [ps]) := by
  obtain ⟨hl, gs, h1, h2, h3, h4, h5⟩ := h
  obtain ⟨g, rfl, hg1, hg2⟩ := own_block hp hps
  have hvl : vs.length = n := by have := h1.1; omega
  have hw1 : w1.ownsRow base 32 1 (.slice A n c) n vs := h1.kept hx (by cases (Value.slice A n c).ownBlock <;> simp)
  refine ⟨by simp [hl], vs ++ [.slice (some ⟨g, 0, none⟩) ps.length cp], gs ++ [g], ho, by simp [h2], ?_, ?_, ?_⟩
  · rw [List.pairwise_append]
    exact ⟨h3, by simp, fun a ha b hb => by rw [List.mem_singleton.1 hb]; have := h4 a ha; omega⟩
  · intro a ha
    rcases List.mem_append.1 ha with ha | ha
    · have := h4 a ha; have := hx.size; have := hg.size; omega
    · rw [List.mem_singleton.1 ha]; have := hx.size; have := hg.size; omega
  · intro i qs hi
    by_cases hin : i < pss.length
    · rw [List.getElem?_append_left hin] at hi
      obtain ⟨g', ci, k1, k2, k3⟩ := h5 i qs hi
      have k4 : w1.ownsRow base 5 1 (.slice (some ⟨g', 0, none⟩) qs.length ci) qs.length (vals .u8 qs) := k3.kept hx (by simp [Value.ownBlock])
      exact ⟨g', ci, by rw [List.getElem?_append_left (by omega)]; exact k1, by rw [List.getElem?_append_left (by omega)]; exact k2, k4.kept hg (own_types k4 hw1 (by decide))⟩
    · rw [List.getElem?_append_right (by omega)] at hi
      have hi0 : i = pss.length := by
        have := (List.getElem?_eq_some_iff.1 hi).1
        simp at this; omega
      subst hi0
      simp at hi
      subst hi
      have k4 : w1.ownsRow base 5 1 (.slice (some ⟨g, 0, none⟩) ps.length cp) ps.length (vals .u8 ps) := (own_base hp hbase).kept hx (by simp [Value.ownBlock])
      exact ⟨g, cp, by rw [List.getElem?_append_right (by omega)]; simp [h2, hl], by rw [List.getElem?_append_right (by omega)]; simp [hvl, hl], k4.kept hg (own_types k4 hw1 (by decide))⟩
end

section
open Go.RowKit

set_option maxHeartbeats 4000000 in
set_option maxRecDepth 100000 in
theorem call2_ok (w : World) (r S p : Nat) (xs rest : List Nat) (hSw : S ≤ w.heap.size) (hb : ∀ x ∈ xs, x < 256) (hp : p < 32) (hx : xs.length ≤ 255) (h : IsWs w r S (2 :: p :: xs.length :: (xs ++ rest))) :
    Calls Tryz.prog 159 #[.pointer (some ⟨r, 0, none⟩)] w (CallR 2 p xs 0 rest w r S) := by
  have hr := h.lt
  have H := Lib.hid (fun o : Obj => h.ext ((Ext.refl w).alloc o)); clear h
  have Hb := Lib.hid hb; clear hb
  obtain ⟨k, Hk⟩ : ∃ k, Hid (xs.length = k) := ⟨_, rfl⟩
  rw [Hk.out] at H hx
  go_enter Tryz.func159, Tryz.ntmps159
  go_wp2_with fail
  refine (wtake_ok _ r S 1 _ (H.out _) (by simp)).mono ?_
  rintro e w1 ⟨A, c, rfl, hc, hR, hS, hg, hz, hbl⟩
  obtain ⟨b, off, rfl, hc0⟩ := head_cell hR
  have K2 := Lib.hid (blk_grown (blk_new w _) hg (by omega))
  have HS := Lib.hid (show IsWs w1 r S (p :: k :: (xs ++ rest)) from hS); have HG := Lib.hid hg
  rw [World.size_alloc] at hz
  clear hR hS hg hbl
  go_upto_block 0 with fail
  go_cut [6] (fun _ wd => CallMid 2 p xs 0 rest w r S w1.heap.size wd)
  case first =>
    go_wp2_with fail
    refine (wtake_ok _ r S 2 _ (HS.out.ext ((Ext.refl w1).alloc _)) (by simp)).mono ?_
    rintro e w2 ⟨A2, c2, rfl, hc2, hR2, hS2, hg2, hz2, hbl2⟩
    rw [World.size_alloc] at hz2
    have HS2 := Lib.hid (show IsWs w2 r S (xs ++ rest) from hS2)
    obtain ⟨b2, off2, rfl, hcc⟩ := hR2 (by simp [vals])
    have h0 : w2.cell? ⟨b2, off2, none⟩ = some (.int .u8 (p : Int)) := hcc 0 _ rfl
    have h1 : w2.cell? ⟨b2, off2 + 1, none⟩ = some (.int .u8 (k : Int)) := hcc 1 _ rfl
    obtain ⟨hbr, hbS⟩ := hbl2 (by simp) _ rfl
    have hbr : b2 ≠ r := hbr
    have hbS : b2 < S := hbS
    have K3 := Lib.hid (blk_grown (blk_new w1 _) hg2 (by omega))
    have K2' := Lib.hid (blk_grown (blk_past K2.out _) hg2 (by omega))
    have HGA := Lib.hid (World.grown_trans (grown_alloc (World.grown_trans (grown_none ((Ext.refl w).alloc (.cells #[.int .u8 0, .int .i64 0, .slice none 0 0, .int .i64 0] 34)) (some r)) HG.out) _) hg2)
    clear hcc hR2 hS2 hg2 HS K2 HG hbl2 hc0
    have hp32 : decide ((p : Int) < 32) = true := by simp; omega
    go_wp2_with fail
    refine (must_ok _ _).mono ?_
    rintro e w' ⟨rfl, rfl⟩
    have w1p : IntKind.i64.wrap (p : Int) = (p : Int) := by rw [IntKind.wrap_i64]; omega
    have w1k : IntKind.i64.wrap (k : Int) = (k : Int) := by rw [IntKind.wrap_i64]; omega
    have C3 := Lib.hid (wtake_ok w2.drew r S k _ (show IsWs w2.drew r S (xs ++ rest) from HS2.out) (by rw [List.length_append, Hk.out]; omega))
    have hne1 : b2 ≠ w1.heap.size := by omega
    have hk47 : k ≤ 140737488355328 := by omega
    have hner : w1.heap.size ≠ r := by omega
    go_upto_region 13 with fail
    go_cut [4] (fun _ wd => ∃ A4 c4, wd.heap[w1.heap.size]? = some (.cells #[.int .u8 (2 : Int), .int .i64 (p : Int), .slice A4 k c4, .int .i64 0] 34 (0, 0)) ∧ wd.ownsRow w2.heap.size 5 1 (.slice A4 k c4) k (vals .u8 xs) ∧ IsWs wd r S (rest) ∧ w.grownBy wd (some r) ∧ wd.heap[w.heap.size]? = some (.cells #[.int .u8 0, .int .i64 0, .slice none 0 0, .int .i64 0] 34 (0, 0)))
    case first =>
      go_region_held3 (fun w' => w'.cell? ⟨b2, off2, none⟩ = some (.int .u8 (p : Int)) ∧ w'.cell? ⟨b2, off2 + 1, none⟩ = some (.int .u8 (k : Int)))
        (((try go_split_ands); refine ⟨?_, ?_⟩ <;> first | assumption | exact cell_otherD (by assumption) hne1 | exact cell_other (by assumption) hne1))
        (first
          | (go_at_call 114; refine C3.out.mono ?_; rintro e w3 ⟨A3, c3, rfl, hc3, hR3, hS3, hg3, hz3, _⟩; have s0 : w3.cell? ⟨b2, off2, none⟩ = some (.int .u8 (p : Int)) := (hg3.cell_far ⟨b2, off2, none⟩ (World.block_lt_of_cell? w2 _ h0) (fun e => hbr (by injection e))).trans h0; have s1 : w3.cell? ⟨b2, off2 + 1, none⟩ = some (.int .u8 (k : Int)) := (hg3.cell_far ⟨b2, off2 + 1, none⟩ (World.block_lt_of_cell? w2 _ h1) (fun e => hbr (by injection e))).trans h1; rw [List.take_left' Hk.out] at hR3; rw [List.drop_left' Hk.out] at hS3; have HR3 := Lib.hid hR3; have HS3 := Lib.hid hS3; have HG3 := Lib.hid hg3; clear hR3 hS3 hg3)
          | (go_at_call 67; refine (clone_any A3 k c3 xs w3 Hk.out hk47 HR3.out).mono ?_; rintro e w4 ⟨A4, c4, rfl, hown4, hy4⟩; rw [Hk.out] at hown4 ⊢; have t0 := ext_cell hy4 s0; have t1 := ext_cell hy4 s1; have KC4 := Lib.hid (blk_ext (blk_grown (show w2.drew.heap[w1.heap.size]? = _ from K3.out) HG3.out hner) hy4); have u1 := blk_cell KC4.out 1; have u2 := blk_cell KC4.out 2; have f1 := blk_frozen KC4.out 1; have f2 := blk_frozen KC4.out 2; have Hown4 := Lib.hid hown4; have Hy4 := Lib.hid hy4; clear hown4 hy4))
      all_goals
        go_wp2_with fail
        go_meet
        have hG := grown_setCell (grown_set w4 w1.heap.size 1 (.int .i64 (p : Int))) 2 (.slice A4 k c4)
        have hs3 : w2.heap.size = w3.heap.size := hz3
        have hG3 : w2.grownBy w3 (some r) := grown_undrew HG3.out
        have hG4 := grown_ext (World.grown_trans HGA.out hG3) Hy4.out
        have hoo : w4.ownsRow w2.heap.size 5 1 (.slice A4 k c4) k (vals .u8 xs) := own_base Hown4.out (by omega)
        exact ⟨A4, c4, blk_set (blk_set KC4.out 1 _) 2 _, hoo.kept hG (own_ne hoo (by omega)), (HS3.out.ext Hy4.out).grown hG (fun k hk => by injection hk with hk; omega), grown_new hG4 hG (by omega), blk_grown' (blk_ext (blk_grown' K2'.out hG3 (by omega)) Hy4.out) hG (by omega)⟩
    case rest =>
      obtain ⟨A4, c4, hC, ho, hSx, hGx, hR⟩ := hcut
      have KC := Lib.hid hC; have Ho := Lib.hid ho; have HSx := Lib.hid hSx; have HGx := Lib.hid hGx; have KR := Lib.hid hR
      have g0 := blk_cell KC.out 0
      clear hC ho hSx hGx hR h0 h1
      go_wp2_with fail
      go_meet
      refine ⟨A4, c4, ?_, KR.out, ?_, HSx.out, HGx.out⟩
      · rw [Hk.out]; exact KC.out
      · rw [Hk.out]; exact own_base Ho.out (by omega)
  case rest =>
    obtain ⟨A3, c3, hC, hR, ho, hS, hG⟩ := hcut
    have KC := Lib.hid hC; have KR := Lib.hid hR; have Ho := Lib.hid ho; have HSc := Lib.hid hS; have HGc := Lib.hid hG
    clear hC hR ho hS hG
    have c0 := blk_cell KC.out 0; have c1 := blk_cell KC.out 1; have c2 := blk_cell KC.out 2; have c3 := blk_cell KC.out 3
    have k0 := blk_cell KR.out 0; have k1 := blk_cell KR.out 1; have k2 := blk_cell KR.out 2; have k3 := blk_cell KR.out 3
    have f0 := blk_frozen KR.out 0; have f1 := blk_frozen KR.out 1; have f2 := blk_frozen KR.out 2; have f3 := blk_frozen KR.out 3
    go_wp2_with fail
    refine bodyPost_ret (ret_call1 rfl rfl (row4 KR.out _ _ _ _)) rfl ?_
    exact ⟨A3, _, rfl, own_row4 Ho.out (by omega) _ _ _ _, ws_row4 HSc.out (by omega) hSw _ _ _ _, grown_row4 HGc.out (Nat.le_refl _) _ _ _ _⟩

set_option maxHeartbeats 4000000 in
set_option maxRecDepth 100000 in
theorem call4_ok (w : World) (r S p : Nat) (xs rest : List Nat) (hSw : S ≤ w.heap.size) (hb : ∀ x ∈ xs, x < 256) (hp : p < 32) (hx : xs.length ≤ 255) (h : IsWs w r S (4 :: p :: xs.length :: (xs ++ rest))) :
    Calls Tryz.prog 159 #[.pointer (some ⟨r, 0, none⟩)] w (CallR 4 p xs 0 rest w r S) := by
  have hr := h.lt
  have H := Lib.hid (fun o : Obj => h.ext ((Ext.refl w).alloc o)); clear h
  have Hb := Lib.hid hb; clear hb
  obtain ⟨k, Hk⟩ : ∃ k, Hid (xs.length = k) := ⟨_, rfl⟩
  rw [Hk.out] at H hx
  go_enter Tryz.func159, Tryz.ntmps159
  go_wp2_with fail
  refine (wtake_ok _ r S 1 _ (H.out _) (by simp)).mono ?_
  rintro e w1 ⟨A, c, rfl, hc, hR, hS, hg, hz, hbl⟩
  obtain ⟨b, off, rfl, hc0⟩ := head_cell hR
  have K2 := Lib.hid (blk_grown (blk_new w _) hg (by omega))
  have HS := Lib.hid (show IsWs w1 r S (p :: k :: (xs ++ rest)) from hS); have HG := Lib.hid hg
  rw [World.size_alloc] at hz
  clear hR hS hg hbl
  go_upto_block 0 with fail
  go_cut [6] (fun _ wd => CallMid 4 p xs 0 rest w r S w1.heap.size wd)
  case first =>
    go_wp2_with fail
    refine (wtake_ok _ r S 2 _ (HS.out.ext ((Ext.refl w1).alloc _)) (by simp)).mono ?_
    rintro e w2 ⟨A2, c2, rfl, hc2, hR2, hS2, hg2, hz2, hbl2⟩
    rw [World.size_alloc] at hz2
    have HS2 := Lib.hid (show IsWs w2 r S (xs ++ rest) from hS2)
    obtain ⟨b2, off2, rfl, hcc⟩ := hR2 (by simp [vals])
    have h0 : w2.cell? ⟨b2, off2, none⟩ = some (.int .u8 (p : Int)) := hcc 0 _ rfl
    have h1 : w2.cell? ⟨b2, off2 + 1, none⟩ = some (.int .u8 (k : Int)) := hcc 1 _ rfl
    obtain ⟨hbr, hbS⟩ := hbl2 (by simp) _ rfl
    have hbr : b2 ≠ r := hbr
    have hbS : b2 < S := hbS
    have K3 := Lib.hid (blk_grown (blk_new w1 _) hg2 (by omega))
    have K2' := Lib.hid (blk_grown (blk_past K2.out _) hg2 (by omega))
    have HGA := Lib.hid (World.grown_trans (grown_alloc (World.grown_trans (grown_none ((Ext.refl w).alloc (.cells #[.int .u8 0, .int .i64 0, .slice none 0 0, .int .i64 0] 34)) (some r)) HG.out) _) hg2)
    clear hcc hR2 hS2 hg2 HS K2 HG hbl2 hc0
    have hp32 : decide ((p : Int) < 32) = true := by simp; omega
    go_wp2_with fail
    refine (must_ok _ _).mono ?_
    rintro e w' ⟨rfl, rfl⟩
    have w1p : IntKind.i64.wrap (p : Int) = (p : Int) := by rw [IntKind.wrap_i64]; omega
    have w1k : IntKind.i64.wrap (k : Int) = (k : Int) := by rw [IntKind.wrap_i64]; omega
    have C3 := Lib.hid (wtake_ok w2.drew r S k _ (show IsWs w2.drew r S (xs ++ rest) from HS2.out) (by rw [List.length_append, Hk.out]; omega))
    have hne1 : b2 ≠ w1.heap.size := by omega
    have hk47 : k ≤ 140737488355328 := by omega
    have hner : w1.heap.size ≠ r := by omega
    go_upto_region 13 with fail
    go_cut [4] (fun _ wd => ∃ A4 c4, wd.heap[w1.heap.size]? = some (.cells #[.int .u8 (4 : Int), .int .i64 (p : Int), .slice A4 k c4, .int .i64 0] 34 (0, 0)) ∧ wd.ownsRow w2.heap.size 5 1 (.slice A4 k c4) k (vals .u8 xs) ∧ IsWs wd r S (rest) ∧ w.grownBy wd (some r) ∧ wd.heap[w.heap.size]? = some (.cells #[.int .u8 0, .int .i64 0, .slice none 0 0, .int .i64 0] 34 (0, 0)))
    case first =>
      go_region_held3 (fun w' => w'.cell? ⟨b2, off2, none⟩ = some (.int .u8 (p : Int)) ∧ w'.cell? ⟨b2, off2 + 1, none⟩ = some (.int .u8 (k : Int)))
        (((try go_split_ands); refine ⟨?_, ?_⟩ <;> first | assumption | exact cell_otherD (by assumption) hne1 | exact cell_other (by assumption) hne1))
        (first
          | (go_at_call 114; refine C3.out.mono ?_; rintro e w3 ⟨A3, c3, rfl, hc3, hR3, hS3, hg3, hz3, _⟩; have s0 : w3.cell? ⟨b2, off2, none⟩ = some (.int .u8 (p : Int)) := (hg3.cell_far ⟨b2, off2, none⟩ (World.block_lt_of_cell? w2 _ h0) (fun e => hbr (by injection e))).trans h0; have s1 : w3.cell? ⟨b2, off2 + 1, none⟩ = some (.int .u8 (k : Int)) := (hg3.cell_far ⟨b2, off2 + 1, none⟩ (World.block_lt_of_cell? w2 _ h1) (fun e => hbr (by injection e))).trans h1; rw [List.take_left' Hk.out] at hR3; rw [List.drop_left' Hk.out] at hS3; have HR3 := Lib.hid hR3; have HS3 := Lib.hid hS3; have HG3 := Lib.hid hg3; clear hR3 hS3 hg3)
          | (go_at_call 67; refine (clone_any A3 k c3 xs w3 Hk.out hk47 HR3.out).mono ?_; rintro e w4 ⟨A4, c4, rfl, hown4, hy4⟩; rw [Hk.out] at hown4 ⊢; have t0 := ext_cell hy4 s0; have t1 := ext_cell hy4 s1; have KC4 := Lib.hid (blk_ext (blk_grown (show w2.drew.heap[w1.heap.size]? = _ from K3.out) HG3.out hner) hy4); have u1 := blk_cell KC4.out 1; have u2 := blk_cell KC4.out 2; have f1 := blk_frozen KC4.out 1; have f2 := blk_frozen KC4.out 2; have Hown4 := Lib.hid hown4; have Hy4 := Lib.hid hy4; clear hown4 hy4))
      all_goals
        go_wp2_with fail
        go_meet
        have hG := grown_setCell (grown_set w4 w1.heap.size 1 (.int .i64 (p : Int))) 2 (.slice A4 k c4)
        have hs3 : w2.heap.size = w3.heap.size := hz3
        have hG3 : w2.grownBy w3 (some r) := grown_undrew HG3.out
        have hG4 := grown_ext (World.grown_trans HGA.out hG3) Hy4.out
        have hoo : w4.ownsRow w2.heap.size 5 1 (.slice A4 k c4) k (vals .u8 xs) := own_base Hown4.out (by omega)
        exact ⟨A4, c4, blk_set (blk_set KC4.out 1 _) 2 _, hoo.kept hG (own_ne hoo (by omega)), (HS3.out.ext Hy4.out).grown hG (fun k hk => by injection hk with hk; omega), grown_new hG4 hG (by omega), blk_grown' (blk_ext (blk_grown' K2'.out hG3 (by omega)) Hy4.out) hG (by omega)⟩
    case rest =>
      obtain ⟨A4, c4, hC, ho, hSx, hGx, hR⟩ := hcut
      have KC := Lib.hid hC; have Ho := Lib.hid ho; have HSx := Lib.hid hSx; have HGx := Lib.hid hGx; have KR := Lib.hid hR
      have g0 := blk_cell KC.out 0
      clear hC ho hSx hGx hR h0 h1
      go_wp2_with fail
      go_meet
      refine ⟨A4, c4, ?_, KR.out, ?_, HSx.out, HGx.out⟩
      · rw [Hk.out]; exact KC.out
      · rw [Hk.out]; exact own_base Ho.out (by omega)
  case rest =>
    obtain ⟨A3, c3, hC, hR, ho, hS, hG⟩ := hcut
    have KC := Lib.hid hC; have KR := Lib.hid hR; have Ho := Lib.hid ho; have HSc := Lib.hid hS; have HGc := Lib.hid hG
    clear hC hR ho hS hG
    have c0 := blk_cell KC.out 0; have c1 := blk_cell KC.out 1; have c2 := blk_cell KC.out 2; have c3 := blk_cell KC.out 3
    have k0 := blk_cell KR.out 0; have k1 := blk_cell KR.out 1; have k2 := blk_cell KR.out 2; have k3 := blk_cell KR.out 3
    have f0 := blk_frozen KR.out 0; have f1 := blk_frozen KR.out 1; have f2 := blk_frozen KR.out 2; have f3 := blk_frozen KR.out 3
    go_wp2_with fail
    refine bodyPost_ret (ret_call1 rfl rfl (row4 KR.out _ _ _ _)) rfl ?_
    exact ⟨A3, _, rfl, own_row4 Ho.out (by omega) _ _ _ _, ws_row4 HSc.out (by omega) hSw _ _ _ _, grown_row4 HGc.out (Nat.le_refl _) _ _ _ _⟩

set_option maxHeartbeats 4000000 in
set_option maxRecDepth 100000 in
theorem call1_ok (w : World) (r S p N : Nat) (xs rest : List Nat) (hSw : S ≤ w.heap.size) (hb : ∀ x ∈ xs, x < 256) (hp : p < 32) (hx : xs.length ≤ 255) (hN : N ≤ 4611686018427387903) (hbr' : ∀ x ∈ rest, x < 256) (h : IsWs w r S (1 :: p :: xs.length :: (xs ++ (wordB N 8 ++ rest)))) :
    Calls Tryz.prog 159 #[.pointer (some ⟨r, 0, none⟩)] w (CallR 1 p xs N rest w r S) := by
  have hr := h.lt
  have H := Lib.hid (fun o : Obj => h.ext ((Ext.refl w).alloc o)); clear h
  have Hb := Lib.hid hb; clear hb
  obtain ⟨k, Hk⟩ : ∃ k, Hid (xs.length = k) := ⟨_, rfl⟩
  rw [Hk.out] at H hx
  go_enter Tryz.func159, Tryz.ntmps159
  go_wp2_with fail
  refine (wtake_ok _ r S 1 _ (H.out _) (by simp)).mono ?_
  rintro e w1 ⟨A, c, rfl, hc, hR, hS, hg, hz, hbl⟩
  obtain ⟨b, off, rfl, hc0⟩ := head_cell hR
  have K2 := Lib.hid (blk_grown (blk_new w _) hg (by omega))
  have HS := Lib.hid (show IsWs w1 r S (p :: k :: (xs ++ (wordB N 8 ++ rest))) from hS); have HG := Lib.hid hg
  rw [World.size_alloc] at hz
  clear hR hS hg hbl
  go_upto_block 0 with fail
  go_cut [6] (fun _ wd => CallMid 1 p xs N rest w r S w1.heap.size wd)
  case first =>
    go_wp2_with fail
    refine (wtake_ok _ r S 2 _ (HS.out.ext ((Ext.refl w1).alloc _)) (by simp)).mono ?_
    rintro e w2 ⟨A2, c2, rfl, hc2, hR2, hS2, hg2, hz2, hbl2⟩
    rw [World.size_alloc] at hz2
    have HS2 := Lib.hid (show IsWs w2 r S (xs ++ (wordB N 8 ++ rest)) from hS2)
    obtain ⟨b2, off2, rfl, hcc⟩ := hR2 (by simp [vals])
    have h0 : w2.cell? ⟨b2, off2, none⟩ = some (.int .u8 (p : Int)) := hcc 0 _ rfl
    have h1 : w2.cell? ⟨b2, off2 + 1, none⟩ = some (.int .u8 (k : Int)) := hcc 1 _ rfl
    obtain ⟨hbr, hbS⟩ := hbl2 (by simp) _ rfl
    have hbr : b2 ≠ r := hbr
    have hbS : b2 < S := hbS
    have K3 := Lib.hid (blk_grown (blk_new w1 _) hg2 (by omega))
    have K2' := Lib.hid (blk_grown (blk_past K2.out _) hg2 (by omega))
    have HGA := Lib.hid (World.grown_trans (grown_alloc (World.grown_trans (grown_none ((Ext.refl w).alloc (.cells #[.int .u8 0, .int .i64 0, .slice none 0 0, .int .i64 0] 34)) (some r)) HG.out) _) hg2)
    clear hcc hR2 hS2 hg2 HS K2 HG hbl2 hc0
    have hp32 : decide ((p : Int) < 32) = true := by simp; omega
    go_wp2_with fail
    refine (must_ok _ _).mono ?_
    rintro e w' ⟨rfl, rfl⟩
    have w1p : IntKind.i64.wrap (p : Int) = (p : Int) := by rw [IntKind.wrap_i64]; omega
    have w1k : IntKind.i64.wrap (k : Int) = (k : Int) := by rw [IntKind.wrap_i64]; omega
    have C3 := Lib.hid (wtake_ok w2.drew r S k _ (show IsWs w2.drew r S (xs ++ (wordB N 8 ++ rest)) from HS2.out) (by rw [List.length_append, Hk.out]; omega))
    have hne1 : b2 ≠ w1.heap.size := by omega
    have hk47 : k ≤ 140737488355328 := by omega
    have hner : w1.heap.size ≠ r := by omega
    go_upto_region 13 with fail
    go_cut [4] (fun _ wd => ∃ A4 c4, wd.heap[w1.heap.size]? = some (.cells #[.int .u8 (1 : Int), .int .i64 (p : Int), .slice A4 k c4, .int .i64 0] 34 (0, 0)) ∧ wd.ownsRow w2.heap.size 5 1 (.slice A4 k c4) k (vals .u8 xs) ∧ IsWs wd r S (wordB N 8 ++ rest) ∧ w.grownBy wd (some r) ∧ wd.heap[w.heap.size]? = some (.cells #[.int .u8 0, .int .i64 0, .slice none 0 0, .int .i64 0] 34 (0, 0)))
    case first =>
      go_region_held3 (fun w' => w'.cell? ⟨b2, off2, none⟩ = some (.int .u8 (p : Int)) ∧ w'.cell? ⟨b2, off2 + 1, none⟩ = some (.int .u8 (k : Int)))
        (((try go_split_ands); refine ⟨?_, ?_⟩ <;> first | assumption | exact cell_otherD (by assumption) hne1 | exact cell_other (by assumption) hne1))
        (first
          | (go_at_call 114; refine C3.out.mono ?_; rintro e w3 ⟨A3, c3, rfl, hc3, hR3, hS3, hg3, hz3, _⟩; have s0 : w3.cell? ⟨b2, off2, none⟩ = some (.int .u8 (p : Int)) := (hg3.cell_far ⟨b2, off2, none⟩ (World.block_lt_of_cell? w2 _ h0) (fun e => hbr (by injection e))).trans h0; have s1 : w3.cell? ⟨b2, off2 + 1, none⟩ = some (.int .u8 (k : Int)) := (hg3.cell_far ⟨b2, off2 + 1, none⟩ (World.block_lt_of_cell? w2 _ h1) (fun e => hbr (by injection e))).trans h1; rw [List.take_left' Hk.out] at hR3; rw [List.drop_left' Hk.out] at hS3; have HR3 := Lib.hid hR3; have HS3 := Lib.hid hS3; have HG3 := Lib.hid hg3; clear hR3 hS3 hg3)
          | (go_at_call 67; refine (clone_any A3 k c3 xs w3 Hk.out hk47 HR3.out).mono ?_; rintro e w4 ⟨A4, c4, rfl, hown4, hy4⟩; rw [Hk.out] at hown4 ⊢; have t0 := ext_cell hy4 s0; have t1 := ext_cell hy4 s1; have KC4 := Lib.hid (blk_ext (blk_grown (show w2.drew.heap[w1.heap.size]? = _ from K3.out) HG3.out hner) hy4); have u1 := blk_cell KC4.out 1; have u2 := blk_cell KC4.out 2; have f1 := blk_frozen KC4.out 1; have f2 := blk_frozen KC4.out 2; have Hown4 := Lib.hid hown4; have Hy4 := Lib.hid hy4; clear hown4 hy4))
      all_goals
        go_wp2_with fail
        go_meet
        have hG := grown_setCell (grown_set w4 w1.heap.size 1 (.int .i64 (p : Int))) 2 (.slice A4 k c4)
        have hs3 : w2.heap.size = w3.heap.size := hz3
        have hG3 : w2.grownBy w3 (some r) := grown_undrew HG3.out
        have hG4 := grown_ext (World.grown_trans HGA.out hG3) Hy4.out
        have hoo : w4.ownsRow w2.heap.size 5 1 (.slice A4 k c4) k (vals .u8 xs) := own_base Hown4.out (by omega)
        exact ⟨A4, c4, blk_set (blk_set KC4.out 1 _) 2 _, hoo.kept hG (own_ne hoo (by omega)), (HS3.out.ext Hy4.out).grown hG (fun k hk => by injection hk with hk; omega), grown_new hG4 hG (by omega), blk_grown' (blk_ext (blk_grown' K2'.out hG3 (by omega)) Hy4.out) hG (by omega)⟩
    case rest =>
      obtain ⟨A4, c4, hC, ho, hSx, hGx, hR⟩ := hcut
      have KC := Lib.hid hC; have Ho := Lib.hid ho; have HSx := Lib.hid hSx; have HGx := Lib.hid hGx; have KR := Lib.hid hR
      have g0 := blk_cell KC.out 0
      clear hC ho hSx hGx hR h0 h1
      have hw8 : (wordB N 8 ++ rest).take 8 = wordB N 8 := List.take_left' (wordB_len N 8)
      have hd8 : (wordB N 8 ++ rest).drop 8 = rest := List.drop_left' (wordB_len N 8)
      have hn8 : numB (wordB N 8) = N := by rw [numB_wordB]; exact Nat.mod_eq_of_lt (Nat.lt_of_le_of_lt hN (by decide))
      have hbt : ∀ x ∈ wordB N 8 ++ rest, x < 256 := fun x hx => by
        rcases List.mem_append.1 hx with hx | hx
        · exact wordB_lt _ _ x hx
        · exact hbr' x hx
      have C5 := Lib.hid (wnumber_any wc r S (wordB N 8 ++ rest) hbt HSx.out)
      clear hbt
      go_wp2_with fail
      refine C5.out.mono ?_
      rintro e w5 ⟨hg5, hz5, hh⟩
      rw [hw8, hd8, hn8] at hh
      rcases hh with ⟨_, _, rfl, hS5⟩ | ⟨hno, _⟩
      · have KC5 := Lib.hid (blk_grown' KC.out hg5 (by omega)); have HS5 := Lib.hid hS5; have HG5 := Lib.hid hg5
        have u3 := blk_cell KC5.out 3; have f3 := blk_frozen KC5.out 3
        clear hS5 hg5 hw8 hd8 hn8 g0 C5
        go_wp2_with fail
        go_meet
        have hG := grown_set w5 w1.heap.size 3 (.int .i64 (N : Int))
        have hoo := Ho.out.kept HG5.out (own_ne Ho.out (by omega))
        refine ⟨A4, c4, ?_, blk_grown' (blk_grown' KR.out HG5.out (by omega)) hG (by omega), ?_, HS5.out.grown hG (fun k hk => by injection hk with hk; omega), grown_new (World.grown_trans HGx.out HG5.out) hG (by omega)⟩
        · rw [Hk.out]; exact blk_set KC5.out 3 _
        · rw [Hk.out]; exact own_base (hoo.kept hG (own_ne hoo (by omega))) (by omega)
      · exact absurd ⟨by rw [List.length_append, wordB_len]; omega, hN⟩ hno
  case rest =>
    obtain ⟨A3, c3, hC, hR, ho, hS, hG⟩ := hcut
    have KC := Lib.hid hC; have KR := Lib.hid hR; have Ho := Lib.hid ho; have HSc := Lib.hid hS; have HGc := Lib.hid hG
    clear hC hR ho hS hG
    have c0 := blk_cell KC.out 0; have c1 := blk_cell KC.out 1; have c2 := blk_cell KC.out 2; have c3 := blk_cell KC.out 3
    have k0 := blk_cell KR.out 0; have k1 := blk_cell KR.out 1; have k2 := blk_cell KR.out 2; have k3 := blk_cell KR.out 3
    have f0 := blk_frozen KR.out 0; have f1 := blk_frozen KR.out 1; have f2 := blk_frozen KR.out 2; have f3 := blk_frozen KR.out 3
    go_wp2_with fail
    refine bodyPost_ret (ret_call1 rfl rfl (row4 KR.out _ _ _ _)) rfl ?_
    exact ⟨A3, _, rfl, own_row4 Ho.out (by omega) _ _ _ _, ws_row4 HSc.out (by omega) hSw _ _ _ _, grown_row4 HGc.out (Nat.le_refl _) _ _ _ _⟩
end

section
open Go.RowKit
/-- a way that is over: what is left is nothing -/
theorem over_any {p : Prop} {w : World} (h : p) : wpAny Tryz.prog .text #[] (fun _ _ _ => True) 0 #[] { tmps := #[], defers := [] } w → p := fun _ => h

set_option maxHeartbeats 2000000 in
set_option maxRecDepth 100000 in
theorem call1_few (w : World) (r S : Nat) (z : List Nat) (_hSw : S ≤ w.heap.size) (hlen : z.length < 2) (h : IsWs w r S (1 :: z)) :
    Calls Tryz.prog 159 #[.pointer (some ⟨r, 0, none⟩)] w (WrongR w r) := by
  have hr := h.lt
  have H := Lib.hid (fun o : Obj => h.ext ((Ext.refl w).alloc o)); clear h
  go_enter Tryz.func159, Tryz.ntmps159
  go_wp2_with fail
  refine (wtake_ok _ r S 1 _ (H.out _) (by simp)).mono ?_
  rintro e w1 ⟨A, c, rfl, hc, hR, hS, hg, hz, hbl⟩
  obtain ⟨b, off, rfl, hc0⟩ := head_cell hR
  have HS := Lib.hid (show IsWs w1 r S (z) from hS); have HG := Lib.hid hg
  rw [World.size_alloc] at hz
  clear hR hS hg hbl
  have HGB := Lib.hid (fun o : Obj => grown_alloc (World.grown_trans (grown_none ((Ext.refl w).alloc (.cells #[.int .u8 0, .int .i64 0, .slice none 0 0, .int .i64 0] 34)) (some r)) HG.out) o)
  go_wp2_with fail
  refine (wtake_no _ r S 2 _ (HS.out.ext ((Ext.refl w1).alloc _)) hlen).mono ?_
  rintro e w' ⟨rfl, rfl⟩
  exact ⟨rfl, rfl, HGB.out _⟩

set_option maxHeartbeats 2000000 in
set_option maxRecDepth 100000 in
theorem call1_pol (w : World) (r S : Nat) (p k : Nat) (t : List Nat) (_hSw : S ≤ w.heap.size) (hp : 32 ≤ p) (h : IsWs w r S (1 :: p :: k :: t)) :
    Calls Tryz.prog 159 #[.pointer (some ⟨r, 0, none⟩)] w (WrongR w r) := by
  have hr := h.lt
  have H := Lib.hid (fun o : Obj => h.ext ((Ext.refl w).alloc o)); clear h
  go_enter Tryz.func159, Tryz.ntmps159
  go_wp2_with fail
  refine (wtake_ok _ r S 1 _ (H.out _) (by simp)).mono ?_
  rintro e w1 ⟨A, c, rfl, hc, hR, hS, hg, hz, hbl⟩
  obtain ⟨b, off, rfl, hc0⟩ := head_cell hR
  have HS := Lib.hid (show IsWs w1 r S (p :: k :: t) from hS); have HG := Lib.hid hg
  rw [World.size_alloc] at hz
  clear hR hS hg hbl
  have HGB := Lib.hid (fun o : Obj => grown_alloc (World.grown_trans (grown_none ((Ext.refl w).alloc (.cells #[.int .u8 0, .int .i64 0, .slice none 0 0, .int .i64 0] 34)) (some r)) HG.out) o)
  go_wp2_with fail
  refine (wtake_ok _ r S 2 _ (HS.out.ext ((Ext.refl w1).alloc _)) (by simp)).mono ?_
  rintro e w2 ⟨A2, c2, rfl, hc2, hR2, hS2, hg2, hz2, hbl2⟩
  rw [World.size_alloc] at hz2
  have HS2 := Lib.hid (show IsWs w2 r S (t) from hS2)
  obtain ⟨b2, off2, rfl, hcc⟩ := hR2 (by simp [vals])
  have h0 : w2.cell? ⟨b2, off2, none⟩ = some (.int .u8 (p : Int)) := hcc 0 _ rfl
  have h1 : w2.cell? ⟨b2, off2 + 1, none⟩ = some (.int .u8 (k : Int)) := hcc 1 _ rfl
  obtain ⟨hbr, hbS⟩ := hbl2 (by simp) _ rfl
  have hbr : b2 ≠ r := hbr
  have hbS : b2 < S := hbS
  have HGA := Lib.hid (World.grown_trans (HGB.out _) hg2)
  clear hcc hR2 hS2 hg2 HS HG hbl2 hc0
  have hp32 : decide ((p : Int) < 32) = false := by simp; omega
  go_wp2_with fail
  refine (must_no _ _).mono ?_
  rintro e w' ⟨rfl, rfl⟩
  exact ⟨rfl, rfl, HGA.out⟩

set_option maxHeartbeats 2000000 in
set_option maxRecDepth 100000 in
theorem call1_key (w : World) (r S : Nat) (p k : Nat) (t : List Nat) (_hSw : S ≤ w.heap.size) (hp : p < 32) (hk : k < 256) (hlen : t.length < k) (h : IsWs w r S (1 :: p :: k :: t)) :
    Calls Tryz.prog 159 #[.pointer (some ⟨r, 0, none⟩)] w (WrongR w r) := by
  have hr := h.lt
  have H := Lib.hid (fun o : Obj => h.ext ((Ext.refl w).alloc o)); clear h
  go_enter Tryz.func159, Tryz.ntmps159
  go_wp2_with fail
  refine (wtake_ok _ r S 1 _ (H.out _) (by simp)).mono ?_
  rintro e w1 ⟨A, c, rfl, hc, hR, hS, hg, hz, hbl⟩
  obtain ⟨b, off, rfl, hc0⟩ := head_cell hR
  have HS := Lib.hid (show IsWs w1 r S (p :: k :: t) from hS); have HG := Lib.hid hg
  rw [World.size_alloc] at hz
  clear hR hS hg hbl
  have HGB := Lib.hid (fun o : Obj => grown_alloc (World.grown_trans (grown_none ((Ext.refl w).alloc (.cells #[.int .u8 0, .int .i64 0, .slice none 0 0, .int .i64 0] 34)) (some r)) HG.out) o)
  go_wp2_with fail
  refine (wtake_ok _ r S 2 _ (HS.out.ext ((Ext.refl w1).alloc _)) (by simp)).mono ?_
  rintro e w2 ⟨A2, c2, rfl, hc2, hR2, hS2, hg2, hz2, hbl2⟩
  rw [World.size_alloc] at hz2
  have HS2 := Lib.hid (show IsWs w2 r S (t) from hS2)
  obtain ⟨b2, off2, rfl, hcc⟩ := hR2 (by simp [vals])
  have h0 : w2.cell? ⟨b2, off2, none⟩ = some (.int .u8 (p : Int)) := hcc 0 _ rfl
  have h1 : w2.cell? ⟨b2, off2 + 1, none⟩ = some (.int .u8 (k : Int)) := hcc 1 _ rfl
  obtain ⟨hbr, hbS⟩ := hbl2 (by simp) _ rfl
  have hbr : b2 ≠ r := hbr
  have hbS : b2 < S := hbS
  have HGA := Lib.hid (World.grown_trans (HGB.out _) hg2)
  clear hcc hR2 hS2 hg2 HS HG hbl2 hc0
  have hp32 : decide ((p : Int) < 32) = true := by simp; omega
  go_wp2_with fail
  refine (must_ok _ _).mono ?_
  rintro e w' ⟨rfl, rfl⟩
  have C3 := Lib.hid (wtake_no w2.drew r S k _ (show IsWs w2.drew r S t from HS2.out) hlen)
  have w1p : IntKind.i64.wrap (p : Int) = (p : Int) := by rw [IntKind.wrap_i64]; omega
  have w1k : IntKind.i64.wrap (k : Int) = (k : Int) := by rw [IntKind.wrap_i64]; omega
  have hfin : w.grownBy w2.drew (some r) := grown_drew HGA.out
  go_upto_region 13 with fail
  go_region_with (go_at_call 114; refine C3.out.mono ?_; rintro e w3 ⟨rfl, rfl⟩; refine over_any (w := w2) ⟨rfl, rfl, hfin⟩ ?_)
  all_goals exact trivial

set_option maxHeartbeats 2000000 in
set_option maxRecDepth 100000 in
theorem call2_few (w : World) (r S : Nat) (z : List Nat) (_hSw : S ≤ w.heap.size) (hlen : z.length < 2) (h : IsWs w r S (2 :: z)) :
    Calls Tryz.prog 159 #[.pointer (some ⟨r, 0, none⟩)] w (WrongR w r) := by
  have hr := h.lt
  have H := Lib.hid (fun o : Obj => h.ext ((Ext.refl w).alloc o)); clear h
  go_enter Tryz.func159, Tryz.ntmps159
  go_wp2_with fail
  refine (wtake_ok _ r S 1 _ (H.out _) (by simp)).mono ?_
  rintro e w1 ⟨A, c, rfl, hc, hR, hS, hg, hz, hbl⟩
  obtain ⟨b, off, rfl, hc0⟩ := head_cell hR
  have HS := Lib.hid (show IsWs w1 r S (z) from hS); have HG := Lib.hid hg
  rw [World.size_alloc] at hz
  clear hR hS hg hbl
  have HGB := Lib.hid (fun o : Obj => grown_alloc (World.grown_trans (grown_none ((Ext.refl w).alloc (.cells #[.int .u8 0, .int .i64 0, .slice none 0 0, .int .i64 0] 34)) (some r)) HG.out) o)
  go_wp2_with fail
  refine (wtake_no _ r S 2 _ (HS.out.ext ((Ext.refl w1).alloc _)) hlen).mono ?_
  rintro e w' ⟨rfl, rfl⟩
  exact ⟨rfl, rfl, HGB.out _⟩

set_option maxHeartbeats 2000000 in
set_option maxRecDepth 100000 in
theorem call2_pol (w : World) (r S : Nat) (p k : Nat) (t : List Nat) (_hSw : S ≤ w.heap.size) (hp : 32 ≤ p) (h : IsWs w r S (2 :: p :: k :: t)) :
    Calls Tryz.prog 159 #[.pointer (some ⟨r, 0, none⟩)] w (WrongR w r) := by
  have hr := h.lt
  have H := Lib.hid (fun o : Obj => h.ext ((Ext.refl w).alloc o)); clear h
  go_enter Tryz.func159, Tryz.ntmps159
  go_wp2_with fail
  refine (wtake_ok _ r S 1 _ (H.out _) (by simp)).mono ?_
  rintro e w1 ⟨A, c, rfl, hc, hR, hS, hg, hz, hbl⟩
  obtain ⟨b, off, rfl, hc0⟩ := head_cell hR
  have HS := Lib.hid (show IsWs w1 r S (p :: k :: t) from hS); have HG := Lib.hid hg
  rw [World.size_alloc] at hz
  clear hR hS hg hbl
  have HGB := Lib.hid (fun o : Obj => grown_alloc (World.grown_trans (grown_none ((Ext.refl w).alloc (.cells #[.int .u8 0, .int .i64 0, .slice none 0 0, .int .i64 0] 34)) (some r)) HG.out) o)
  go_wp2_with fail
  refine (wtake_ok _ r S 2 _ (HS.out.ext ((Ext.refl w1).alloc _)) (by simp)).mono ?_
  rintro e w2 ⟨A2, c2, rfl, hc2, hR2, hS2, hg2, hz2, hbl2⟩
  rw [World.size_alloc] at hz2
  have HS2 := Lib.hid (show IsWs w2 r S (t) from hS2)
  obtain ⟨b2, off2, rfl, hcc⟩ := hR2 (by simp [vals])
  have h0 : w2.cell? ⟨b2, off2, none⟩ = some (.int .u8 (p : Int)) := hcc 0 _ rfl
  have h1 : w2.cell? ⟨b2, off2 + 1, none⟩ = some (.int .u8 (k : Int)) := hcc 1 _ rfl
  obtain ⟨hbr, hbS⟩ := hbl2 (by simp) _ rfl
  have hbr : b2 ≠ r := hbr
  have hbS : b2 < S := hbS
  have HGA := Lib.hid (World.grown_trans (HGB.out _) hg2)
  clear hcc hR2 hS2 hg2 HS HG hbl2 hc0
  have hp32 : decide ((p : Int) < 32) = false := by simp; omega
  go_wp2_with fail
  refine (must_no _ _).mono ?_
  rintro e w' ⟨rfl, rfl⟩
  exact ⟨rfl, rfl, HGA.out⟩

set_option maxHeartbeats 2000000 in
set_option maxRecDepth 100000 in
theorem call2_key (w : World) (r S : Nat) (p k : Nat) (t : List Nat) (_hSw : S ≤ w.heap.size) (hp : p < 32) (hk : k < 256) (hlen : t.length < k) (h : IsWs w r S (2 :: p :: k :: t)) :
    Calls Tryz.prog 159 #[.pointer (some ⟨r, 0, none⟩)] w (WrongR w r) := by
  have hr := h.lt
  have H := Lib.hid (fun o : Obj => h.ext ((Ext.refl w).alloc o)); clear h
  go_enter Tryz.func159, Tryz.ntmps159
  go_wp2_with fail
  refine (wtake_ok _ r S 1 _ (H.out _) (by simp)).mono ?_
  rintro e w1 ⟨A, c, rfl, hc, hR, hS, hg, hz, hbl⟩
  obtain ⟨b, off, rfl, hc0⟩ := head_cell hR
  have HS := Lib.hid (show IsWs w1 r S (p :: k :: t) from hS); have HG := Lib.hid hg
  rw [World.size_alloc] at hz
  clear hR hS hg hbl
  have HGB := Lib.hid (fun o : Obj => grown_alloc (World.grown_trans (grown_none ((Ext.refl w).alloc (.cells #[.int .u8 0, .int .i64 0, .slice none 0 0, .int .i64 0] 34)) (some r)) HG.out) o)
  go_wp2_with fail
  refine (wtake_ok _ r S 2 _ (HS.out.ext ((Ext.refl w1).alloc _)) (by simp)).mono ?_
  rintro e w2 ⟨A2, c2, rfl, hc2, hR2, hS2, hg2, hz2, hbl2⟩
  rw [World.size_alloc] at hz2
  have HS2 := Lib.hid (show IsWs w2 r S (t) from hS2)
  obtain ⟨b2, off2, rfl, hcc⟩ := hR2 (by simp [vals])
  have h0 : w2.cell? ⟨b2, off2, none⟩ = some (.int .u8 (p : Int)) := hcc 0 _ rfl
  have h1 : w2.cell? ⟨b2, off2 + 1, none⟩ = some (.int .u8 (k : Int)) := hcc 1 _ rfl
  obtain ⟨hbr, hbS⟩ := hbl2 (by simp) _ rfl
  have hbr : b2 ≠ r := hbr
  have hbS : b2 < S := hbS
  have HGA := Lib.hid (World.grown_trans (HGB.out _) hg2)
  clear hcc hR2 hS2 hg2 HS HG hbl2 hc0
  have hp32 : decide ((p : Int) < 32) = true := by simp; omega
  go_wp2_with fail
  refine (must_ok _ _).mono ?_
  rintro e w' ⟨rfl, rfl⟩
  have C3 := Lib.hid (wtake_no w2.drew r S k _ (show IsWs w2.drew r S t from HS2.out) hlen)
  have w1p : IntKind.i64.wrap (p : Int) = (p : Int) := by rw [IntKind.wrap_i64]; omega
  have w1k : IntKind.i64.wrap (k : Int) = (k : Int) := by rw [IntKind.wrap_i64]; omega
  have hfin : w.grownBy w2.drew (some r) := grown_drew HGA.out
  go_upto_region 13 with fail
  go_region_with (go_at_call 114; refine C3.out.mono ?_; rintro e w3 ⟨rfl, rfl⟩; refine over_any (w := w2) ⟨rfl, rfl, hfin⟩ ?_)
  all_goals exact trivial

set_option maxHeartbeats 2000000 in
set_option maxRecDepth 100000 in
theorem call4_few (w : World) (r S : Nat) (z : List Nat) (_hSw : S ≤ w.heap.size) (hlen : z.length < 2) (h : IsWs w r S (4 :: z)) :
    Calls Tryz.prog 159 #[.pointer (some ⟨r, 0, none⟩)] w (WrongR w r) := by
  have hr := h.lt
  have H := Lib.hid (fun o : Obj => h.ext ((Ext.refl w).alloc o)); clear h
  go_enter Tryz.func159, Tryz.ntmps159
  go_wp2_with fail
  refine (wtake_ok _ r S 1 _ (H.out _) (by simp)).mono ?_
  rintro e w1 ⟨A, c, rfl, hc, hR, hS, hg, hz, hbl⟩
  obtain ⟨b, off, rfl, hc0⟩ := head_cell hR
  have HS := Lib.hid (show IsWs w1 r S (z) from hS); have HG := Lib.hid hg
  rw [World.size_alloc] at hz
  clear hR hS hg hbl
  have HGB := Lib.hid (fun o : Obj => grown_alloc (World.grown_trans (grown_none ((Ext.refl w).alloc (.cells #[.int .u8 0, .int .i64 0, .slice none 0 0, .int .i64 0] 34)) (some r)) HG.out) o)
  go_wp2_with fail
  refine (wtake_no _ r S 2 _ (HS.out.ext ((Ext.refl w1).alloc _)) hlen).mono ?_
  rintro e w' ⟨rfl, rfl⟩
  exact ⟨rfl, rfl, HGB.out _⟩

set_option maxHeartbeats 2000000 in
set_option maxRecDepth 100000 in
theorem call4_pol (w : World) (r S : Nat) (p k : Nat) (t : List Nat) (_hSw : S ≤ w.heap.size) (hp : 32 ≤ p) (h : IsWs w r S (4 :: p :: k :: t)) :
    Calls Tryz.prog 159 #[.pointer (some ⟨r, 0, none⟩)] w (WrongR w r) := by
  have hr := h.lt
  have H := Lib.hid (fun o : Obj => h.ext ((Ext.refl w).alloc o)); clear h
  go_enter Tryz.func159, Tryz.ntmps159
  go_wp2_with fail
  refine (wtake_ok _ r S 1 _ (H.out _) (by simp)).mono ?_
  rintro e w1 ⟨A, c, rfl, hc, hR, hS, hg, hz, hbl⟩
  obtain ⟨b, off, rfl, hc0⟩ := head_cell hR
  have HS := Lib.hid (show IsWs w1 r S (p :: k :: t) from hS); have HG := Lib.hid hg
  rw [World.size_alloc] at hz
  clear hR hS hg hbl
  have HGB := Lib.hid (fun o : Obj => grown_alloc (World.grown_trans (grown_none ((Ext.refl w).alloc (.cells #[.int .u8 0, .int .i64 0, .slice none 0 0, .int .i64 0] 34)) (some r)) HG.out) o)
  go_wp2_with fail
  refine (wtake_ok _ r S 2 _ (HS.out.ext ((Ext.refl w1).alloc _)) (by simp)).mono ?_
  rintro e w2 ⟨A2, c2, rfl, hc2, hR2, hS2, hg2, hz2, hbl2⟩
  rw [World.size_alloc] at hz2
  have HS2 := Lib.hid (show IsWs w2 r S (t) from hS2)
  obtain ⟨b2, off2, rfl, hcc⟩ := hR2 (by simp [vals])
  have h0 : w2.cell? ⟨b2, off2, none⟩ = some (.int .u8 (p : Int)) := hcc 0 _ rfl
  have h1 : w2.cell? ⟨b2, off2 + 1, none⟩ = some (.int .u8 (k : Int)) := hcc 1 _ rfl
  obtain ⟨hbr, hbS⟩ := hbl2 (by simp) _ rfl
  have hbr : b2 ≠ r := hbr
  have hbS : b2 < S := hbS
  have HGA := Lib.hid (World.grown_trans (HGB.out _) hg2)
  clear hcc hR2 hS2 hg2 HS HG hbl2 hc0
  have hp32 : decide ((p : Int) < 32) = false := by simp; omega
  go_wp2_with fail
  refine (must_no _ _).mono ?_
  rintro e w' ⟨rfl, rfl⟩
  exact ⟨rfl, rfl, HGA.out⟩

set_option maxHeartbeats 2000000 in
set_option maxRecDepth 100000 in
theorem call4_key (w : World) (r S : Nat) (p k : Nat) (t : List Nat) (_hSw : S ≤ w.heap.size) (hp : p < 32) (hk : k < 256) (hlen : t.length < k) (h : IsWs w r S (4 :: p :: k :: t)) :
    Calls Tryz.prog 159 #[.pointer (some ⟨r, 0, none⟩)] w (WrongR w r) := by
  have hr := h.lt
  have H := Lib.hid (fun o : Obj => h.ext ((Ext.refl w).alloc o)); clear h
  go_enter Tryz.func159, Tryz.ntmps159
  go_wp2_with fail
  refine (wtake_ok _ r S 1 _ (H.out _) (by simp)).mono ?_
  rintro e w1 ⟨A, c, rfl, hc, hR, hS, hg, hz, hbl⟩
  obtain ⟨b, off, rfl, hc0⟩ := head_cell hR
  have HS := Lib.hid (show IsWs w1 r S (p :: k :: t) from hS); have HG := Lib.hid hg
  rw [World.size_alloc] at hz
  clear hR hS hg hbl
  have HGB := Lib.hid (fun o : Obj => grown_alloc (World.grown_trans (grown_none ((Ext.refl w).alloc (.cells #[.int .u8 0, .int .i64 0, .slice none 0 0, .int .i64 0] 34)) (some r)) HG.out) o)
  go_wp2_with fail
  refine (wtake_ok _ r S 2 _ (HS.out.ext ((Ext.refl w1).alloc _)) (by simp)).mono ?_
  rintro e w2 ⟨A2, c2, rfl, hc2, hR2, hS2, hg2, hz2, hbl2⟩
  rw [World.size_alloc] at hz2
  have HS2 := Lib.hid (show IsWs w2 r S (t) from hS2)
  obtain ⟨b2, off2, rfl, hcc⟩ := hR2 (by simp [vals])
  have h0 : w2.cell? ⟨b2, off2, none⟩ = some (.int .u8 (p : Int)) := hcc 0 _ rfl
  have h1 : w2.cell? ⟨b2, off2 + 1, none⟩ = some (.int .u8 (k : Int)) := hcc 1 _ rfl
  obtain ⟨hbr, hbS⟩ := hbl2 (by simp) _ rfl
  have hbr : b2 ≠ r := hbr
  have hbS : b2 < S := hbS
  have HGA := Lib.hid (World.grown_trans (HGB.out _) hg2)
  clear hcc hR2 hS2 hg2 HS HG hbl2 hc0
  have hp32 : decide ((p : Int) < 32) = true := by simp; omega
  go_wp2_with fail
  refine (must_ok _ _).mono ?_
  rintro e w' ⟨rfl, rfl⟩
  have C3 := Lib.hid (wtake_no w2.drew r S k _ (show IsWs w2.drew r S t from HS2.out) hlen)
  have w1p : IntKind.i64.wrap (p : Int) = (p : Int) := by rw [IntKind.wrap_i64]; omega
  have w1k : IntKind.i64.wrap (k : Int) = (k : Int) := by rw [IntKind.wrap_i64]; omega
  have hfin : w.grownBy w2.drew (some r) := grown_drew HGA.out
  go_upto_region 13 with fail
  go_region_with (go_at_call 114; refine C3.out.mono ?_; rintro e w3 ⟨rfl, rfl⟩; refine over_any (w := w2) ⟨rfl, rfl, hfin⟩ ?_)
  all_goals exact trivial

set_option maxHeartbeats 2000000 in
set_option maxRecDepth 100000 in
theorem call1_num (w : World) (r S : Nat) (p k : Nat) (xs u : List Nat) (_hSw : S ≤ w.heap.size) (hp : p < 32) (hk : k < 256) (hxk : xs.length = k) (hub : ∀ x ∈ u, x < 256) (hno : ¬ (8 ≤ u.length ∧ numB (u.take 8) ≤ 4611686018427387903)) (h : IsWs w r S (1 :: p :: k :: (xs ++ u))) :
    Calls Tryz.prog 159 #[.pointer (some ⟨r, 0, none⟩)] w (WrongR w r) := by
  have hr := h.lt
  have H := Lib.hid (fun o : Obj => h.ext ((Ext.refl w).alloc o)); clear h
  have Hk := Lib.hid hxk; have Hub := Lib.hid hub; have Hno := Lib.hid hno; clear hxk hub hno
  go_enter Tryz.func159, Tryz.ntmps159
  go_wp2_with fail
  refine (wtake_ok _ r S 1 _ (H.out _) (by simp)).mono ?_
  rintro e w1 ⟨A, c, rfl, hc, hR, hS, hg, hz, hbl⟩
  obtain ⟨b, off, rfl, hc0⟩ := head_cell hR
  have HS := Lib.hid (show IsWs w1 r S (p :: k :: (xs ++ u)) from hS); have HG := Lib.hid hg
  rw [World.size_alloc] at hz
  clear hR hS hg hbl
  have HGB := Lib.hid (fun o : Obj => grown_alloc (World.grown_trans (grown_none ((Ext.refl w).alloc (.cells #[.int .u8 0, .int .i64 0, .slice none 0 0, .int .i64 0] 34)) (some r)) HG.out) o)
  go_wp2_with fail
  refine (wtake_ok _ r S 2 _ (HS.out.ext ((Ext.refl w1).alloc _)) (by simp)).mono ?_
  rintro e w2 ⟨A2, c2, rfl, hc2, hR2, hS2, hg2, hz2, hbl2⟩
  rw [World.size_alloc] at hz2
  have HS2 := Lib.hid (show IsWs w2 r S (xs ++ u) from hS2)
  obtain ⟨b2, off2, rfl, hcc⟩ := hR2 (by simp [vals])
  have h0 : w2.cell? ⟨b2, off2, none⟩ = some (.int .u8 (p : Int)) := hcc 0 _ rfl
  have h1 : w2.cell? ⟨b2, off2 + 1, none⟩ = some (.int .u8 (k : Int)) := hcc 1 _ rfl
  obtain ⟨hbr, hbS⟩ := hbl2 (by simp) _ rfl
  have hbr : b2 ≠ r := hbr
  have hbS : b2 < S := hbS
  have HGA := Lib.hid (World.grown_trans (HGB.out _) hg2)
  have K3 := Lib.hid (blk_grown (blk_new w1 _) hg2 (by omega))
  clear hcc hR2 hS2 hg2 HS HG hbl2 hc0
  have hp32 : decide ((p : Int) < 32) = true := by simp; omega
  go_wp2_with fail
  refine (must_ok _ _).mono ?_
  rintro e w' ⟨rfl, rfl⟩
  have hne1 : b2 ≠ w1.heap.size := by omega
  have hk47 : k ≤ 140737488355328 := by omega
  have hner : w1.heap.size ≠ r := by omega
  have w1p : IntKind.i64.wrap (p : Int) = (p : Int) := by rw [IntKind.wrap_i64]; omega
  have w1k : IntKind.i64.wrap (k : Int) = (k : Int) := by rw [IntKind.wrap_i64]; omega
  have C3 := Lib.hid (wtake_ok w2.drew r S k _ (show IsWs w2.drew r S (xs ++ u) from HS2.out) (by rw [List.length_append, Hk.out]; omega))
  go_upto_region 13 with fail
  go_cut [4] (fun _ wd => (∃ A4 c4, wd.heap[w1.heap.size]? = some (.cells #[.int .u8 1, .int .i64 (p : Int), .slice A4 k c4, .int .i64 0] 34 (0, 0))) ∧ IsWs wd r S u ∧ w.grownBy wd (some r))
  case first =>
    go_region_held3 (fun w' => w'.cell? ⟨b2, off2, none⟩ = some (.int .u8 (p : Int)) ∧ w'.cell? ⟨b2, off2 + 1, none⟩ = some (.int .u8 (k : Int)))
      (((try go_split_ands); refine ⟨?_, ?_⟩ <;> first | assumption | exact cell_otherD (by assumption) hne1 | exact cell_other (by assumption) hne1))
      (first
        | (go_at_call 114; refine C3.out.mono ?_; rintro e w3 ⟨A3, c3, rfl, hc3, hR3, hS3, hg3, hz3, _⟩; have s0 : w3.cell? ⟨b2, off2, none⟩ = some (.int .u8 (p : Int)) := (hg3.cell_far ⟨b2, off2, none⟩ (World.block_lt_of_cell? w2 _ h0) (fun e => hbr (by injection e))).trans h0; have s1 : w3.cell? ⟨b2, off2 + 1, none⟩ = some (.int .u8 (k : Int)) := (hg3.cell_far ⟨b2, off2 + 1, none⟩ (World.block_lt_of_cell? w2 _ h1) (fun e => hbr (by injection e))).trans h1; rw [List.take_left' Hk.out] at hR3; rw [List.drop_left' Hk.out] at hS3; have HR3 := Lib.hid hR3; have HS3 := Lib.hid hS3; have HG3 := Lib.hid hg3; clear hR3 hS3 hg3)
        | (go_at_call 67; refine (clone_any A3 k c3 xs w3 Hk.out hk47 HR3.out).mono ?_; rintro e w4 ⟨A4, c4, rfl, hown4, hy4⟩; rw [Hk.out] at hown4 ⊢; have t0 := ext_cell hy4 s0; have t1 := ext_cell hy4 s1; have KC4 := Lib.hid (blk_ext (blk_grown (show w2.drew.heap[w1.heap.size]? = _ from K3.out) HG3.out hner) hy4); have u1 := blk_cell KC4.out 1; have u2 := blk_cell KC4.out 2; have f1 := blk_frozen KC4.out 1; have f2 := blk_frozen KC4.out 2; have Hy4 := Lib.hid hy4; clear hown4 hy4))
    all_goals
      go_wp2_with fail
      go_meet
      have hG := grown_setCell (grown_set w4 w1.heap.size 1 (.int .i64 (p : Int))) 2 (.slice A4 k c4)
      have hG4 := grown_ext (World.grown_trans HGA.out (grown_undrew HG3.out)) Hy4.out
      exact ⟨⟨A4, c4, blk_set (blk_set KC4.out 1 _) 2 _⟩, (HS3.out.ext Hy4.out).grown hG (fun k hk => by injection hk with hk; omega), grown_new hG4 hG (by omega)⟩
  case rest =>
    obtain ⟨⟨A4, c4, hC⟩, hSx, hGx⟩ := hcut
    have KC := Lib.hid hC; have HSx := Lib.hid hSx; have HGx := Lib.hid hGx
    have g0 := blk_cell KC.out 0
    clear hC hSx hGx h0 h1
    have C5 := Lib.hid (wnumber_any wc r S u Hub.out HSx.out)
    go_wp2_with fail
    refine C5.out.mono ?_
    rintro e w5 ⟨hg5, hz5, hh⟩
    rcases hh with ⟨h5, h6, _, _⟩ | ⟨_, rfl⟩
    · exact absurd ⟨h5, h6⟩ Hno.out
    · exact ⟨rfl, rfl, World.grown_trans HGx.out hg5⟩
end

section
open Go.RowKit

/-- bytes that begin with a right call's -/
def Begins (zs : List Nat) (op p : Nat) (xs : List Nat) (N : Nat) (rest : List Nat) : Prop := NormC op p xs N ∧ zs = reqB op p xs N ++ rest ∧ (op = 3 → rest = [])
theorem reqB_1 (p : Nat) (xs : List Nat) (N : Nat) : reqB 1 p xs N = 1 :: p :: xs.length :: (xs ++ wordB N 8) := rfl
theorem reqB_2 (p : Nat) (xs : List Nat) (N : Nat) : reqB 2 p xs N = 2 :: p :: xs.length :: xs := by simp [reqB]
theorem reqB_4 (p : Nat) (xs : List Nat) (N : Nat) : reqB 4 p xs N = 4 :: p :: xs.length :: xs := by simp [reqB]
theorem norm_1 {p N : Nat} {xs : List Nat} (h1 : p < 32) (h2 : xs.length ≤ 255) (h3 : N ≤ 4611686018427387903) (hb : ∀ x ∈ xs, x < 256) : NormC 1 p xs N :=
  ⟨⟨by omega, by omega, fun _ => ⟨h1, h2⟩, fun _ => h3, fun h => by omega⟩, hb, fun h => by omega, fun h => by omega⟩
theorem norm_24 {o p : Nat} {xs : List Nat} (ho : o = 2 ∨ o = 4) (h1 : p < 32) (h2 : xs.length ≤ 255) (hb : ∀ x ∈ xs, x < 256) : NormC o p xs 0 :=
  ⟨⟨by omega, by omega, fun _ => ⟨h1, h2⟩, fun h => by omega, fun h => by omega⟩, hb, fun h => by omega, fun _ => rfl⟩
theorem norm_56 {o : Nat} (ho : o = 5 ∨ o = 6) : NormC o 0 [] 0 :=
  ⟨⟨by omega, by omega, fun h => by omega, fun h => by omega, fun h => by omega⟩, by simp, fun _ => ⟨rfl, rfl, rfl⟩, fun _ => rfl⟩
theorem reqB_56 {o : Nat} (ho : o = 5 ∨ o = 6) (p : Nat) (xs : List Nat) (N : Nat) : reqB o p xs N = [o] := by unfold reqB; rw [if_neg (by omega), if_pos ho]
theorem reqB_3 (p : Nat) (xs : List Nat) (N : Nat) : reqB 3 p xs N = 3 :: tokB p xs N := rfl

theorem call_good (zs : List Nat) (op p : Nat) (xs : List Nat) (N : Nat) (rest : List Nat) (hb : ∀ x ∈ zs, x < 256) (h : Begins zs op p xs N rest) (w : World) (r S : Nat) (hS : S ≤ w.heap.size) (hw : IsWs w r S zs) :
    Calls Tryz.prog 159 #[.pointer (some ⟨r, 0, none⟩)] w (CallR op p xs N rest w r S) := by
  obtain ⟨⟨⟨h1, h2, h3, h4, h5⟩, hxb, h6, h7⟩, rfl, h8⟩ := h
  have hops : op = 1 ∨ op = 2 ∨ op = 3 ∨ op = 4 ∨ (op = 5 ∨ op = 6) := by omega
  rcases hops with rfl | rfl | rfl | rfl | h56
  · obtain ⟨hp, hx⟩ := h3 (by omega)
    rw [reqB_1] at hw hb
    refine call1_ok w r S p N xs rest hS hxb hp hx (h4 rfl) (fun x hx => hb x (by simp [hx])) ?_
    simpa using hw
  · obtain ⟨hp, hx⟩ := h3 (by omega)
    obtain rfl := h7 (.inl rfl)
    rw [reqB_2] at hw
    exact call2_ok w r S p xs rest hS hxb hp hx (by simpa using hw)
  · obtain ⟨hp, hx⟩ := h3 (by omega)
    obtain rfl := h8 rfl
    rw [reqB_3] at hw
    obtain ⟨k1, k2⟩ := h5 rfl
    exact call3_ok w r S p N xs hS hxb hp k1 k2 hx (by simpa using hw)
  · obtain ⟨hp, hx⟩ := h3 (by omega)
    obtain rfl := h7 (.inr rfl)
    rw [reqB_4] at hw
    exact call4_ok w r S p xs rest hS hxb hp hx (by simpa using hw)
  · obtain ⟨rfl, rfl, rfl⟩ := h6 (by omega)
    rw [reqB_56 h56] at hw
    exact call56 w r S op hS h56 rest (by simpa using hw)
theorem call_wrong (zs : List Nat) (hb : ∀ x ∈ zs, x < 256) (hl : zs.length ≤ 4096) (h : ¬ ∃ op p xs N rest, Begins zs op p xs N rest) (w : World) (r S : Nat) (hS : S ≤ w.heap.size) (hw : IsWs w r S zs) :
    Calls Tryz.prog 159 #[.pointer (some ⟨r, 0, none⟩)] w (WrongR w r) := by
  match zs, hb, hl, h, hw with
  | [], _, _, _, hw => exact call_nil w r S hw
  | o :: z, hb, hl, h, hw =>
    have hzb : ∀ x ∈ z, x < 256 := fun x hx => hb x (by simp [hx])
    by_cases ho : o = 0 ∨ 7 ≤ o
    · exact call_op w r S o hS ho z hw
    by_cases h56 : o = 5 ∨ o = 6
    · exact absurd ⟨o, 0, [], 0, z, norm_56 h56, by rw [reqB_56 h56]; rfl, fun h => by omega⟩ h
    by_cases h3 : o = 3
    · subst h3
      refine call3_bad w r S z hS hzb (by simp at hl; omega) (fun ht => h ?_) hw
      obtain ⟨p, s, xs, hp, h1, h2, hx, hxb, rfl⟩ := ht
      exact ⟨3, p, xs, s, [], ⟨⟨by omega, by omega, fun _ => ⟨hp, hx⟩, fun h => by omega, fun _ => ⟨h1, h2⟩⟩, hxb, fun h => by omega, fun h => by omega⟩, by rw [reqB_3]; simp, fun _ => rfl⟩
    have h124 : o = 1 ∨ o = 2 ∨ o = 4 := by omega
    match z, hzb, hl, h, hw with
    | [], _, _, _, hw =>
      rcases h124 with rfl | rfl | rfl
      · exact call1_few w r S [] hS (by decide) hw
      · exact call2_few w r S [] hS (by decide) hw
      · exact call4_few w r S [] hS (by decide) hw
    | [a], _, _, _, hw =>
      rcases h124 with rfl | rfl | rfl
      · exact call1_few w r S [a] hS (by simp) hw
      · exact call2_few w r S [a] hS (by simp) hw
      · exact call4_few w r S [a] hS (by simp) hw
    | p :: k :: t, hzb, hl, h, hw =>
      have hk : k < 256 := hzb k (by simp)
      have htb : ∀ x ∈ t, x < 256 := fun x hx => hzb x (by simp [hx])
      by_cases hp : 32 ≤ p
      · rcases h124 with rfl | rfl | rfl
        · exact call1_pol w r S p k t hS hp hw
        · exact call2_pol w r S p k t hS hp hw
        · exact call4_pol w r S p k t hS hp hw
      by_cases hlt : t.length < k
      · rcases h124 with rfl | rfl | rfl
        · exact call1_key w r S p k t hS (by omega) hk hlt hw
        · exact call2_key w r S p k t hS (by omega) hk hlt hw
        · exact call4_key w r S p k t hS (by omega) hk hlt hw
      have hlk : (t.take k).length = k := by rw [List.length_take]; omega
      have hxb : ∀ x ∈ t.take k, x < 256 := fun x hx => htb x (List.mem_of_mem_take hx)
      by_cases h1 : o = 1
      · subst h1
        refine call1_num w r S p k (t.take k) (t.drop k) hS (by omega) hk hlk (fun x hx => htb x (List.mem_of_mem_drop hx)) (fun hh => h ?_) (by rw [List.take_append_drop]; exact hw)
        obtain ⟨h8, hN⟩ := hh
        refine ⟨1, p, t.take k, numB ((t.drop k).take 8), (t.drop k).drop 8, norm_1 (by omega) (by omega) hN hxb, ?_, fun h => by omega⟩
        have e : wordB (numB ((t.drop k).take 8)) 8 = (t.drop k).take 8 := wordB_of _ 8 _ (fun x hx => htb x (List.mem_of_mem_drop (List.mem_of_mem_take hx))) (by rw [List.length_take]; omega) rfl
        rw [reqB_1, e, hlk]
        simp only [List.cons_append, List.append_assoc, List.take_append_drop]
      · have h24 : o = 2 ∨ o = 4 := by omega
        refine absurd ⟨o, p, t.take k, 0, t.drop k, norm_24 h24 (by omega) (by omega) hxb, ?_, fun h => by omega⟩ h
        rcases h24 with rfl | rfl
        · rw [reqB_2, hlk]; simp
        · rw [reqB_4, hlk]; simp
/-- bytes begin with one right call only -/
theorem begins_one {zs : List Nat} {op p N op' p' N' : Nat} {xs rest xs' rest' : List Nat} (h : Begins zs op p xs N rest) (h' : Begins zs op' p' xs' N' rest') : op = op' ∧ p = p' ∧ xs = xs' ∧ N = N' ∧ rest = rest' := by
  obtain ⟨⟨⟨h1, h2, h3, h4, h5⟩, _, h6, h7⟩, e, h8⟩ := h
  obtain ⟨⟨⟨g1, g2, g3, g4, g5⟩, _, g6, g7⟩, e', g8⟩ := h'
  rw [e] at e'
  have hops : op = 1 ∨ (op = 2 ∨ op = 4) ∨ op = 3 ∨ (op = 5 ∨ op = 6) := by omega
  have gops : op' = 1 ∨ (op' = 2 ∨ op' = 4) ∨ op' = 3 ∨ (op' = 5 ∨ op' = 6) := by omega
  have hd : ∀ o p N (xs : List Nat), 1 ≤ o → o ≤ 6 → (reqB o p xs N).head? = some o := by
    intro o p N xs k1 k2
    unfold reqB
    split
    · rename_i h; subst h; rfl
    · split <;> rfl
  have hop : op = op' := by
    have k1 := hd op p N xs h1 h2
    have k2 := hd op' p' N' xs' g1 g2
    have := congrArg List.head? e'
    rw [List.head?_append, List.head?_append, k1, k2] at this
    simpa using this
  subst hop
  refine ⟨rfl, ?_⟩
  rcases hops with rfl | h24 | rfl | h56
  · rw [reqB_1, reqB_1] at e'
    simp only [List.cons_append, List.cons.injEq, true_and, List.append_assoc] at e'
    obtain ⟨k1, k2, k3⟩ := e'
    obtain ⟨k4, k5⟩ := List.append_inj k3 k2
    obtain ⟨k6, k7⟩ := List.append_inj k5 (by rw [wordB_len, wordB_len])
    exact ⟨k1, k4, wordB_inj k6 (Nat.lt_of_le_of_lt (h4 rfl) (by decide)) (Nat.lt_of_le_of_lt (g4 rfl) (by decide)), k7⟩
  · have k : ∀ p (xs : List Nat) N, reqB op p xs N = op :: p :: xs.length :: xs := by
      intro p xs N
      rcases h24 with rfl | rfl
      · exact reqB_2 p xs N
      · exact reqB_4 p xs N
    rw [k, k] at e'
    simp only [List.cons_append, List.cons.injEq, true_and] at e'
    obtain ⟨k1, k2, k3⟩ := e'
    obtain ⟨k4, k5⟩ := List.append_inj k3 k2
    exact ⟨k1, k4, by rw [h7 h24, g7 h24], k5⟩
  · obtain rfl := h8 rfl
    obtain rfl := g8 rfl
    rw [reqB_3, reqB_3] at e'
    simp only [List.append_nil, List.cons.injEq, true_and] at e'
    obtain ⟨k1, k2, k3⟩ := tokB_inj e' (h5 rfl).2 (g5 rfl).2
    exact ⟨k1, k2, k3, rfl⟩
  · obtain ⟨rfl, rfl, rfl⟩ := h6 (by omega)
    obtain ⟨rfl, rfl, rfl⟩ := g6 (by omega)
    rw [reqB_56 h56] at e'
    exact ⟨rfl, rfl, rfl, by simpa using e'⟩
theorem begins_isReq {zs : List Nat} : IsReq zs ↔ ∃ op p xs N, Begins zs op p xs N [] := by
  constructor
  · rintro ⟨op, p, xs, N, h, e⟩
    exact ⟨op, p, xs, N, h, by simpa using e, fun _ => rfl⟩
  · rintro ⟨op, p, xs, N, h, e, _⟩
    exact ⟨op, p, xs, N, h, by simpa using e⟩
end

section
open Go.RowKit

set_option maxRecDepth 100000 in
theorem rundo_wrong (w : World) (ec : Nat) (v : Value) (older : List PanicEntry) (he : w.heap[ec]? = some (.cells #[v] 29 (0, 0))) :
    CallsD Tryz.prog 162 #[.pointer (some ⟨ec, 0, none⟩)] (.panicking ({ v := .iface 290 (.agg #[]), recovered := false } :: older)) w fun e u' w' =>
      e = .returned (.tuple #[]) ∧ u' = .panicking ({ v := .iface 290 (.agg #[]), recovered := true } :: older) ∧ (w.alloc (.cells #[] 290)).setCell ⟨ec, 0, none⟩ (.int .i64 3) = w' := by
  refine callsD_of_wpS Tryz.func162 rfl fun c₀ cs hu => ?_
  have hta : ∀ u : World, (Instr.typeAssert (.iface 290 (.agg #[])) 20 290 true).run Tryz.prog u = .ok (.tuple #[.agg #[], .bool true]) u := fun _ => by kernel_rfl
  have p3 := cell_past (blk_cell he 0); have p4 := fz_past he 0
  have He := Lib.hid he; clear he
  simp only [Tryz.ntmps162, List.size_toArray, List.length_cons, List.length_nil, Nat.reduceAdd, Nat.reduceSub, Array.replicate_succ, Array.replicate_zero, List.push_toArray, List.append_toArray, List.nil_append, List.cons_append]
  apply wpS_seq
  apply wpS_region
  simp [wpOpsS, go_sem, recoverD, hu, Exit.thenS]
  refine wpS_of_wp ?_
  refine wp_hideQ fun Q hQ => ?_
  have Hu := Lib.hid hu; clear hu
  go_wp2_with fail
  have hu := Hu.out
  exact ⟨rfl, _, rfl, _, results_none rfl _ _ _, rfl, rfl, rfl⟩
theorem rundo_idle (w : World) (p : Value) :
    CallsD Tryz.prog 162 #[p] .returning w fun e u' w' => e = .returned (.tuple #[]) ∧ u' = .returning ∧ w = w' := by
  refine callsD_of_wpS Tryz.func162 rfl fun c₀ cs hu => ?_
  simp only [Tryz.ntmps162, List.size_toArray, List.length_cons, List.length_nil, Nat.reduceAdd, Nat.reduceSub, Array.replicate_succ, Array.replicate_zero, List.push_toArray, List.append_toArray, List.nil_append, List.cons_append]
  apply wpS_seq
  apply wpS_region
  simp [wpOpsS, go_sem, recoverD, hu, Exit.thenS]
  refine wpS_of_wp ?_
  refine wp_hideQ fun Q hQ => ?_
  have Hu := Lib.hid hu; clear hu
  go_wp2_with fail
  have hu := Hu.out
  exact ⟨rfl, .returning, by cases c₀; simp at hu; subst hu; rfl, _, results_none rfl _ _ _, rfl, rfl, rfl⟩
theorem res_errno {tmps : Array Value} {w : World} {ec : Nat} {v : Value} {t : TypeId} (hp : tmps.getD 4 undef = .pointer (some ⟨ec, 0, none⟩)) (hc : w.heap[ec]? = some (.cells #[v] t (0, 0))) :
    (results Tryz.f112 tmps).run Tryz.prog w = .ok v w := by
  have h0 := blk_cell hc 0
  have hp' : tmps[4]?.getD undef = .pointer (some ⟨ec, 0, none⟩) := by simpa using hp
  simp [results, hp', asAddr, loadVar, h0, go_sem]
/-- the closure's way: it takes what it needs off the reader r, and lays it into block g -/
def ByR (t : TypeId) (cs : Option Addr → Nat → Array Value) (xs rest : List Nat) (r S g : Nat) (W : World) (e : Ending) (w' : World) : Prop :=
  ∃ A c wm, e = .returned (.tuple #[]) ∧ W.grownBy wm (some r) ∧ wm.grownBy w' (some g) ∧ w'.heap[g]? = some (.cells (cs A c) t (0, 0)) ∧ w'.ownsRow W.heap.size 5 1 (.slice A xs.length c) xs.length (vals .u8 xs) ∧ IsWs w' r S rest
theorem blk_far2 (w : World) (o o' : Obj) (g : Nat) (hg : g < w.heap.size) : ((w.alloc o).alloc o').heap[g]? = w.heap[g]? :=
  (Below.heap_alloc (w.alloc o) o' g (by simp; omega)).trans (Below.heap_alloc w o g hg)
theorem grown_new2 {w W wm w2 : World} {r g : Nat} (h : Ext w W) (h1 : W.grownBy wm (some r)) (h2 : wm.grownBy w2 (some g)) (hr : w.heap.size ≤ r) : w.grownBy w2 (some g) :=
  World.grown_trans (grown_new (grown_none h (some g)) h1 hr) h2
set_option maxHeartbeats 1000000 in
set_option maxRecDepth 100000 in
theorem read_goodQ (w : World) (A0 : Option Addr) (n c0 g : Nat) (t : TypeId) (cs : Option Addr → Nat → Array Value) (ys xs : List Nat) (hl : ys.length = n) (hn : n ≤ 4096) (hnc : n ≤ c0) (hr : Rd w A0 (vals .u8 ys)) (hg : g < w.heap.size) (S : Nat) (hSw : S ≤ w.heap.size) (hA0 : ys ≠ [] → ∀ a, A0 = some a → a.block < S)
    (HC0 : ∀ W r, IsWs W r S ys → w.heap.size ≤ r → W.heap[g]? = w.heap[g]? → w.heap.size ≤ W.heap.size → Calls Tryz.prog 158 #[.pointer (some ⟨r, 0, none⟩), .pointer (some ⟨g, 0, none⟩)] W (ByR t cs xs [] r S g W)) :
    Calls Tryz.prog 112 #[.slice A0 n c0, .func (.func 158) #[] #[.pointer (some ⟨g, 0, none⟩)]] w fun e w' => ∃ A c, e = .returned (.int .i64 0) ∧ w.grownBy w' (some g) ∧ w'.heap[g]? = some (.cells (cs A c) t (0, 0)) ∧ w'.ownsRow w.heap.size 5 1 (.slice A xs.length c) xs.length (vals .u8 xs) := by
  have hmf : ∀ (fn : Fn) (first cap : Array Value) (w : World), (Instr.makeFunc fn first cap).run Tryz.prog w = .ok (.func fn first cap) w := fun _ _ _ _ => rfl
  have HC := Lib.hid HC0; clear HC0
  have hws : ∀ o o' : Obj, Rd ((w.alloc o).alloc o') A0 (vals .u8 ys) := fun o o' => (hr.alloc o).alloc o'
  have hlt : ∀ a, A0 = some a → ys ≠ [] → a.block < S := fun a ha hne => hA0 hne a ha
  have Hws := Lib.hid hws; have Hlt := Lib.hid hlt; have Hl := Lib.hid hl
  have Hg := Lib.hid (fun o o' : Obj => (blk_far2 w o o' g hg)); clear hws hlt hl hr hA0
  go_enter_defers Tryz.func112, Tryz.ntmps112
  go_wp2_with fail
  obtain ⟨W, hW⟩ : ∃ W, (w.alloc (.cells #[.int .i64 0] 29)).alloc (.cells #[.slice A0 n c0] 292) = W := ⟨_, rfl⟩
  have hsW : w.heap.size + 2 = W.heap.size := by rw [← hW]; simp
  have hIW : IsWs W (w.heap.size + 1) S ys := by
    rw [← hW]
    refine ⟨A0, c0, ?_, by rw [Hl.out]; exact hnc, Hws.out _ _, fun hne a ha => ?_⟩
    · rw [Hl.out]; exact blk_newk _ _ (by simp)
    · have := Hlt.out a ha hne; exact ⟨by omega, this⟩
  have hEW : W.heap[w.heap.size]? = some (.cells #[.int .i64 0] 29 (0, 0)) := by rw [← hW]; exact blk_past (blk_new w _) _
  have hgW : W.heap[g]? = w.heap[g]? := by rw [← hW]; exact Hg.out _ _
  have hGW : Ext w W := by rw [← hW]; exact ((Ext.refl w).alloc _).alloc _
  have C := Lib.hid (HC.out W (w.heap.size + 1) hIW (by omega) hgW (by omega))
  have HE := Lib.hid hEW; have HGW := Lib.hid hGW
  rw [hW]
  clear hW hIW hEW hgW hGW HC Hws Hg
  refine C.out.mono ?_
  rintro e w2 ⟨A, c, wm, rfl, hg1, hg2, hcs, ho, hS⟩
  obtain ⟨A2, c2, hw2, _, _, _⟩ := hS
  have h0 : w2.cell? ⟨w.heap.size + 1, 0, none⟩ = some (.slice A2 0 c2) := blk_cell hw2 0
  have HE2 := Lib.hid (blk_grown (blk_grown HE.out hg1 (by omega)) hg2 (by omega))
  have HG2 := Lib.hid (grown_new2 HGW.out hg1 hg2 (by omega))
  have Hcs := Lib.hid hcs; have Ho := Lib.hid ho
  have hs2 : W.heap.size ≤ w2.heap.size := Nat.le_trans hg1.size hg2.size
  clear hg1 hg2 hcs ho hw2 C HE HGW
  go_wp2_with fail
  refine (must_ok _ _).mono ?_
  rintro e w' ⟨rfl, rfl⟩
  have e0 := blk_cell HE2.out 0; have f0 := blk_frozen HE2.out 0
  go_wp2_with fail
  refine leaves_cons (f := 162) (args := #[.pointer (some ⟨w.heap.size, 0, none⟩)]) (by simp) (by simp [go_sem]) ?_
  refine (rundo_idle _ _).mono ?_
  rintro e u' w'' ⟨rfl, rfl, rfl⟩
  have hG := grown_set w2 w.heap.size 0 (.int .i64 0)
  have hoo : w2.ownsRow (w.heap.size + 1) 5 1 (.slice A xs.length c) xs.length (vals .u8 xs) := own_base Ho.out (by omega)
  exact ⟨_, res_errno rfl (blk_set HE2.out 0 _), A, c, rfl, grown_setNew HG2.out (Nat.le_refl _) 0 _, blk_grown' Hcs.out hG (by omega), own_base (hoo.kept hG (own_ne hoo (by omega))) (by omega)⟩
set_option maxHeartbeats 1000000 in
set_option maxRecDepth 100000 in
theorem read_moreQ (w : World) (A0 : Option Addr) (n c0 g : Nat) (t : TypeId) (cs : Option Addr → Nat → Array Value) (ys xs rest : List Nat) (hrest : rest ≠ []) (hl : ys.length = n) (hn : n ≤ 4096) (hnc : n ≤ c0) (hr : Rd w A0 (vals .u8 ys)) (hg : g < w.heap.size) (S : Nat) (hSw : S ≤ w.heap.size) (hA0 : ys ≠ [] → ∀ a, A0 = some a → a.block < S)
    (HC0 : ∀ W r, IsWs W r S ys → w.heap.size ≤ r → W.heap[g]? = w.heap[g]? → w.heap.size ≤ W.heap.size → Calls Tryz.prog 158 #[.pointer (some ⟨r, 0, none⟩), .pointer (some ⟨g, 0, none⟩)] W (ByR t cs xs rest r S g W)) :
    Calls Tryz.prog 112 #[.slice A0 n c0, .func (.func 158) #[] #[.pointer (some ⟨g, 0, none⟩)]] w fun e w' => e = .returned (.int .i64 3) ∧ w.grownBy w' (some g) := by
  have hmf : ∀ (fn : Fn) (first cap : Array Value) (w : World), (Instr.makeFunc fn first cap).run Tryz.prog w = .ok (.func fn first cap) w := fun _ _ _ _ => rfl
  have HC := Lib.hid HC0; clear HC0
  have hws : ∀ o o' : Obj, Rd ((w.alloc o).alloc o') A0 (vals .u8 ys) := fun o o' => (hr.alloc o).alloc o'
  have hlt : ∀ a, A0 = some a → ys ≠ [] → a.block < S := fun a ha hne => hA0 hne a ha
  have Hws := Lib.hid hws; have Hlt := Lib.hid hlt; have Hl := Lib.hid hl
  have Hg := Lib.hid (fun o o' : Obj => (blk_far2 w o o' g hg)); clear hws hlt hl hr hA0
  go_enter_defers Tryz.func112, Tryz.ntmps112
  go_wp2_with fail
  obtain ⟨W, hW⟩ : ∃ W, (w.alloc (.cells #[.int .i64 0] 29)).alloc (.cells #[.slice A0 n c0] 292) = W := ⟨_, rfl⟩
  have hsW : w.heap.size + 2 = W.heap.size := by rw [← hW]; simp
  have hIW : IsWs W (w.heap.size + 1) S ys := by
    rw [← hW]
    refine ⟨A0, c0, ?_, by rw [Hl.out]; exact hnc, Hws.out _ _, fun hne a ha => ?_⟩
    · rw [Hl.out]; exact blk_newk _ _ (by simp)
    · have := Hlt.out a ha hne; exact ⟨by omega, this⟩
  have hEW : W.heap[w.heap.size]? = some (.cells #[.int .i64 0] 29 (0, 0)) := by rw [← hW]; exact blk_past (blk_new w _) _
  have hgW : W.heap[g]? = w.heap[g]? := by rw [← hW]; exact Hg.out _ _
  have hGW : Ext w W := by rw [← hW]; exact ((Ext.refl w).alloc _).alloc _
  have C := Lib.hid (HC.out W (w.heap.size + 1) hIW (by omega) hgW (by omega))
  have HE := Lib.hid hEW; have HGW := Lib.hid hGW
  rw [hW]
  clear hW hIW hEW hgW hGW HC Hws Hg
  refine C.out.mono ?_
  rintro e w2 ⟨A, c, wm, rfl, hg1, hg2, hcs, ho, hS⟩
  obtain ⟨A2, c2, hw2, _, _, _⟩ := hS
  have h0 : w2.cell? ⟨w.heap.size + 1, 0, none⟩ = some (.slice A2 rest.length c2) := blk_cell hw2 0
  have hlen : ((rest.length : Int) == 0) = false := by
    rw [beq_eq_false_iff_ne]
    have := List.length_pos_iff.2 hrest
    omega
  have HE2 := Lib.hid (blk_grown (blk_grown HE.out hg1 (by omega)) hg2 (by omega))
  have HG2 := Lib.hid (grown_new2 HGW.out hg1 hg2 (by omega))
  clear hg1 hg2 hcs ho hw2 C HE HGW
  go_wp2_with fail
  refine (must_no _ _).mono ?_
  rintro e w' ⟨rfl, rfl⟩
  go_wp2_with fail
  refine leaves_cons (f := 162) (args := #[.pointer (some ⟨w.heap.size, 0, none⟩)]) (by simp) (by simp [go_sem]) ?_
  refine (rundo_wrong _ w.heap.size _ [] HE2.out).mono ?_
  rintro e u' w'' ⟨rfl, rfl, rfl⟩
  exact ⟨_, res_errno rfl (blk_set (blk_past HE2.out _) 0 _), rfl, grown_setNew (grown_alloc HG2.out _) (Nat.le_refl _) 0 _⟩
set_option maxHeartbeats 1000000 in
set_option maxRecDepth 100000 in
theorem read_wrongQ (w : World) (A0 : Option Addr) (n c0 g : Nat) (ys : List Nat) (hl : ys.length = n) (hn : n ≤ 4096) (hnc : n ≤ c0) (hr : Rd w A0 (vals .u8 ys)) (hg : g < w.heap.size) (S : Nat) (hSw : S ≤ w.heap.size) (hA0 : ys ≠ [] → ∀ a, A0 = some a → a.block < S)
    (HC0 : ∀ W r, IsWs W r S ys → w.heap.size ≤ r → W.heap[g]? = w.heap[g]? → w.heap.size ≤ W.heap.size → Calls Tryz.prog 158 #[.pointer (some ⟨r, 0, none⟩), .pointer (some ⟨g, 0, none⟩)] W (WrongR W r)) :
    Calls Tryz.prog 112 #[.slice A0 n c0, .func (.func 158) #[] #[.pointer (some ⟨g, 0, none⟩)]] w fun e w' => e = .returned (.int .i64 3) ∧ w.grownBy w' (some g) := by
  have hmf : ∀ (fn : Fn) (first cap : Array Value) (w : World), (Instr.makeFunc fn first cap).run Tryz.prog w = .ok (.func fn first cap) w := fun _ _ _ _ => rfl
  have HC := Lib.hid HC0; clear HC0
  have hws : ∀ o o' : Obj, Rd ((w.alloc o).alloc o') A0 (vals .u8 ys) := fun o o' => (hr.alloc o).alloc o'
  have hlt : ∀ a, A0 = some a → ys ≠ [] → a.block < S := fun a ha hne => hA0 hne a ha
  have Hws := Lib.hid hws; have Hlt := Lib.hid hlt; have Hl := Lib.hid hl
  have Hg := Lib.hid (fun o o' : Obj => (blk_far2 w o o' g hg)); clear hws hlt hl hr hA0
  go_enter_defers Tryz.func112, Tryz.ntmps112
  go_wp2_with fail
  obtain ⟨W, hW⟩ : ∃ W, (w.alloc (.cells #[.int .i64 0] 29)).alloc (.cells #[.slice A0 n c0] 292) = W := ⟨_, rfl⟩
  have hsW : w.heap.size + 2 = W.heap.size := by rw [← hW]; simp
  have hIW : IsWs W (w.heap.size + 1) S ys := by
    rw [← hW]
    refine ⟨A0, c0, ?_, by rw [Hl.out]; exact hnc, Hws.out _ _, fun hne a ha => ?_⟩
    · rw [Hl.out]; exact blk_newk _ _ (by simp)
    · have := Hlt.out a ha hne; exact ⟨by omega, this⟩
  have hEW : W.heap[w.heap.size]? = some (.cells #[.int .i64 0] 29 (0, 0)) := by rw [← hW]; exact blk_past (blk_new w _) _
  have hgW : W.heap[g]? = w.heap[g]? := by rw [← hW]; exact Hg.out _ _
  have hGW : Ext w W := by rw [← hW]; exact ((Ext.refl w).alloc _).alloc _
  have C := Lib.hid (HC.out W (w.heap.size + 1) hIW (by omega) hgW (by omega))
  have HE := Lib.hid hEW; have HGW := Lib.hid hGW
  rw [hW]
  clear hW hIW hEW hgW hGW HC Hws Hg
  refine C.out.mono ?_
  rintro e w2 ⟨rfl, hg1⟩
  have HE2 := Lib.hid (blk_grown HE.out hg1 (by omega))
  have HG2 := Lib.hid (grown_new (grown_none HGW.out (some g)) hg1 (by omega))
  clear hg1 C HE HGW
  go_wp2_with fail
  refine leaves_cons (f := 162) (args := #[.pointer (some ⟨w.heap.size, 0, none⟩)]) (by simp) (by simp [go_sem]) ?_
  refine (rundo_wrong _ w.heap.size _ [] HE2.out).mono ?_
  rintro e u' w'' ⟨rfl, rfl, rfl⟩
  exact ⟨_, res_errno rfl (blk_set (blk_past HE2.out _) 0 _), rfl, grown_setNew (grown_alloc HG2.out _) (Nat.le_refl _) 0 _⟩

/-- what ReadRequest's closure does -/
theorem byReq (w : World) (r S g : Nat) (ys : List Nat) (op p N : Nat) (xs rest : List Nat) (hS : S ≤ w.heap.size) (hb : ∀ x ∈ ys, x < 256) (hB : Begins ys op p xs N rest) (h : IsWs w r S ys) (hg : S ≤ g) (hgw : g < w.heap.size) (hgr : g ≠ r) (hc : w.heap[g]? = some (.cells #[.int .u8 0, .int .i64 0, .slice none 0 0, .int .i64 0] 34 (0, 0))) :
    Calls Tryz.prog 158 #[.pointer (some ⟨r, 0, none⟩), .pointer (some ⟨g, 0, none⟩)] w (ByR 34 (fun A c => #[.int .u8 (op : Int), .int .i64 (p : Int), .slice A xs.length c, .int .i64 (N : Int)]) xs rest r S g w) := by
  have C := Lib.hid (call_good ys op p xs N rest hb hB w r S hS h)
  have Hc := Lib.hid hc
  clear hb hB h hc
  go_enter Tryz.func158, Tryz.ntmps158
  go_wp2_with fail
  refine C.out.mono ?_
  rintro e w1 ⟨A, c, rfl, ho, hI, hG⟩
  have K := Lib.hid (blk_grown Hc.out hG hgr)
  have Ho := Lib.hid ho; have HI := Lib.hid hI; have HG := Lib.hid hG
  clear ho hI hG C
  have k0 := blk_cell K.out 0; have k1 := blk_cell K.out 1; have k2 := blk_cell K.out 2; have k3 := blk_cell K.out 3
  have f0 := blk_frozen K.out 0; have f1 := blk_frozen K.out 1; have f2 := blk_frozen K.out 2; have f3 := blk_frozen K.out 3
  go_wp2_with fail
  go_end0
  have hG := grown_setCell (grown_setCell (grown_setCell (grown_set w1 g 0 (.int .u8 (op : Int))) 1 (.int .i64 (p : Int))) 2 (.slice A xs.length c)) 3 (.int .i64 (N : Int))
  refine ⟨A, c, w1, rfl, HG.out, hG, row4 K.out _ _ _ _, Ho.out.kept hG (own_ne Ho.out (by omega)), HI.out.grown hG (fun k hk => by injection hk with hk; omega)⟩
theorem byReq_wrong (w : World) (r S g : Nat) (ys : List Nat) (hS : S ≤ w.heap.size) (hb : ∀ x ∈ ys, x < 256) (hl : ys.length ≤ 4096) (hB : ¬ ∃ op p xs N rest, Begins ys op p xs N rest) (h : IsWs w r S ys) :
    Calls Tryz.prog 158 #[.pointer (some ⟨r, 0, none⟩), .pointer (some ⟨g, 0, none⟩)] w (WrongR w r) := by
  have C := Lib.hid (call_wrong ys hb hl hB w r S hS h)
  clear hb hB h
  go_enter Tryz.func158, Tryz.ntmps158
  go_wp2_with fail
  refine C.out.mono ?_
  rintro e w1 ⟨rfl, hG⟩
  exact ⟨rfl, rfl, hG⟩
end

section
open Go.RowKit

theorem form_ok (N : Int) (w : World) (h : 0 ≤ N) (h' : N ≤ 4611686018427387903) : Calls Tryz.prog 55 #[.int .i64 N] w fun e w' => e = .returned (.bool true) ∧ w = w' := by
  go_enter Tryz.func55, Tryz.ntmps55
  go_wp2_with fail
  go_ret
  exact ⟨rfl, rfl⟩
theorem form_bad (N : Int) (w : World) (h : N < 0 ∨ 4611686018427387903 < N) : Calls Tryz.prog 55 #[.int .i64 N] w fun e w' => e = .returned (.bool false) ∧ w = w' := by
  rcases h with h | h
  · go_enter Tryz.func55, Tryz.ntmps55
    go_wp2_with fail
    go_ret
    exact ⟨rfl, rfl⟩
  · have h' : 0 ≤ N := by omega
    go_enter Tryz.func55, Tryz.ntmps55
    go_wp2_with fail
    go_ret
    exact ⟨ret_bool (by simp; omega), rfl⟩

set_option maxHeartbeats 2000000 in
theorem wireNum_any (w w0 : World) (base : Nat) (A : Option Addr) (m c : Nat) (xs : List Nat) (v : Nat) (hl : xs.length = m) (ho : w.ownsRow base 5 1 (.slice A m c) m (vals .u8 xs)) (hx : Ext w0 w) (hbase : w0.heap.size ≤ base) (hbw : base ≤ w.heap.size)
    (hv : v < 9223372036854775808) (hm : m ≤ 1000000) :
    Calls Tryz.prog 108 #[.slice A m c, .int .i64 (v : Int)] w fun e w' => ∃ A' c', e = .returned (.slice A' (m + 8) c') ∧ w'.ownsRow base 5 1 (.slice A' (m + 8) c') (m + 8) (vals .u8 (xs ++ wordB v 8)) ∧ Ext w0 w' ∧ w.heap.size ≤ w'.heap.size := by
  have Ho := Lib.hid ho; have Hl := Lib.hid hl; clear ho hl
  go_enter Tryz.func108, Tryz.ntmps108
  go_wp2_with fail
  go_loopg [0, 5] 8 (fun g v0 v5 wr => ∃ (j : Nat) (A' : Option Addr) (c' : Nat), j ≤ 8 ∧ g = 8 - j ∧ v0 = .slice A' (m + j) c' ∧ v5 = .int .i64 (56 - 8 * (j : Int)) ∧ Ext w0 wr ∧ w.heap.size ≤ wr.heap.size ∧
    wr.ownsRow base 5 1 (.slice A' (m + j) c') (m + j) (vals .u8 (xs ++ (wordB v 8).take j)))
  case atStart =>
    exact ⟨0, A, c, Nat.zero_le _, rfl, rfl, by go_num, hx, Nat.le_refl _, by simpa using Ho.out⟩
  case round =>
    obtain ⟨j, A', c', hj, rfl, rfl, rfl, hxr, hsz, hor⟩ := hrel
    have Hxr := Lib.hid hxr; clear hxr
    by_cases hlt : j < 8
    · have hg := wordB_get v 8 j hlt
      obtain ⟨t, ht⟩ : ∃ t, t = 8 * (7 - j) := ⟨_, rfl⟩
      have e1 : (56 - 8 * (j : Int)) = (t : Int) := by omega
      have e2 : v / 256 ^ (8 - 1 - j) % 256 = v / 2 ^ t % 256 := by
        rw [ht, show (256 : Nat) = 2 ^ 8 from rfl, ← Nat.pow_mul]
      rw [e2] at hg
      rw [e1]
      have Hg := Lib.hid hg
      have hib := Lib.hid (show ((v : Int) / 2 ^ t % 256) = ((v / 2 ^ t % 256 : Nat) : Int) by simp only [Int.natCast_emod, Int.natCast_ediv, Int.natCast_pow]; rfl)
      have ht56 : t ≤ 56 := by omega
      have Ht := Lib.hid ht
      clear hg e1 e2 ht
      have hs1 : wr.heap.size ≥ base := by omega
      go_wp2_with (first | (at_builtin; refine app_u8 _ rfl (.tmp 10) (.tmp 16) rfl base rfl (hor.alloc _) rfl (m := 1) (news := [v / 2 ^ t % 256]) rfl (rd_one _ _ _ hib.out) (by omega) (by simp; omega) ?_; intro A1 c1 w1 hown1 hgrow1 _) | fail)
      go_roundg (8 - (j + 1))
      case measure => omega
      case rel =>
        refine ⟨j + 1, A1, c1, hlt, rfl, rfl, by have := Ht.out; go_num, (Hxr.out.alloc _).grown hgrow1 (fun k hk => Nat.le_trans hbase (own_ge hor k hk)), by have := hgrow1.size; simp at this; omega, ?_⟩
        rw [take_succ_of Hg.out, ← List.append_assoc]
        exact hown1
    · obtain rfl : j = 8 := by omega
      have e : (wordB v 8).take 8 = wordB v 8 := List.take_of_length_le (by rw [wordB_len]; omega)
      rw [e] at hor
      have Hor := Lib.hid hor
      clear hor e
      go_wp2_with fail
      go_ret
      exact ⟨A', c', rfl, Hor.out, Hxr.out, hsz⟩

/-- Request: an Op that is none -/
theorem req_bad (w : World) (op p N : Int) (A : Option Addr) (n c : Nat) (_h0 : 0 ≤ op) (h : op < 1 ∨ 6 < op) :
    Calls Tryz.prog 61 #[callV op p A n c N] w (RetBE [] 1 w) := by
  have q1 : (op == 1) = false := by rw [beq_eq_false_iff_ne]; omega
  have q2 : (op == 2) = false := by rw [beq_eq_false_iff_ne]; omega
  have q3 : (op == 3) = false := by rw [beq_eq_false_iff_ne]; omega
  have q4 : (op == 4) = false := by rw [beq_eq_false_iff_ne]; omega
  have q5 : (op == 5) = false := by rw [beq_eq_false_iff_ne]; omega
  have q6 : (op == 6) = false := by rw [beq_eq_false_iff_ne]; omega
  go_enter Tryz.func61, Tryz.ntmps61
  go_wp2_with fail
  go_ret2
  exact retBE_none ⟨rfl, (Ext.refl w).alloc _⟩
theorem req1_num (w : World) (p N : Int) (A : Option Addr) (n c : Nat) (h : N < 0 ∨ 4611686018427387903 < N) :
    Calls Tryz.prog 61 #[callV 1 p A n c N] w (RetBE [] 1 w) := by
  go_enter Tryz.func61, Tryz.ntmps61
  go_wp2_with fail
  refine (form_bad N _ h).mono ?_
  rintro e w1 ⟨rfl, rfl⟩
  go_wp2_with fail
  go_ret2
  exact retBE_none ⟨rfl, (Ext.refl w).alloc _⟩
theorem req1_err (w : World) (p N : Int) (A : Option Addr) (n c : Nat) (q : Int) (hq : (q == 0) = false) (h1 : 0 ≤ N) (h2 : N ≤ 4611686018427387903) (hI : ∀ w, Calls Tryz.prog 72 #[.int .i64 p, .slice A n c] w fun e w' => e = .returned (.tuple #[.slice none 0 0, .int .i64 q]) ∧ w = w') :
    Calls Tryz.prog 61 #[callV 1 p A n c N] w (RetBE [] q w) := by
  have HI := Lib.hid hI; clear hI
  have hq' : (q != 0) = true := by simp [bne, hq]
  go_enter Tryz.func61, Tryz.ntmps61
  go_wp2_with fail
  refine (form_ok N _ h1 h2).mono ?_
  rintro e w1 ⟨rfl, rfl⟩
  go_wp2_with fail
  refine (HI.out _).mono ?_
  rintro e w1 ⟨rfl, rfl⟩
  go_wp2_with fail
  go_ret2
  exact retBE_none ⟨rfl, (Ext.refl w).alloc _⟩
theorem req2_err (w : World) (p N : Int) (A : Option Addr) (n c : Nat) (q : Int) (hq : (q == 0) = false) (hI : ∀ w, Calls Tryz.prog 72 #[.int .i64 p, .slice A n c] w fun e w' => e = .returned (.tuple #[.slice none 0 0, .int .i64 q]) ∧ w = w') :
    Calls Tryz.prog 61 #[callV 2 p A n c N] w (RetBE [] q w) := by
  have HI := Lib.hid hI; clear hI
  have hq' : (q != 0) = true := by simp [bne, hq]
  go_enter Tryz.func61, Tryz.ntmps61
  go_wp2_with fail
  refine (HI.out _).mono ?_
  rintro e w1 ⟨rfl, rfl⟩
  go_wp2_with fail
  go_ret2
  exact retBE_none ⟨rfl, (Ext.refl w).alloc _⟩
theorem req4_err (w : World) (p N : Int) (A : Option Addr) (n c : Nat) (q : Int) (hq : (q == 0) = false) (hI : ∀ w, Calls Tryz.prog 72 #[.int .i64 p, .slice A n c] w fun e w' => e = .returned (.tuple #[.slice none 0 0, .int .i64 q]) ∧ w = w') :
    Calls Tryz.prog 61 #[callV 4 p A n c N] w (RetBE [] q w) := by
  have HI := Lib.hid hI; clear hI
  have hq' : (q != 0) = true := by simp [bne, hq]
  go_enter Tryz.func61, Tryz.ntmps61
  go_wp2_with fail
  refine (HI.out _).mono ?_
  rintro e w1 ⟨rfl, rfl⟩
  go_wp2_with fail
  go_ret2
  exact retBE_none ⟨rfl, (Ext.refl w).alloc _⟩
theorem own_b1 (w : World) (x : Int) (y : Nat) (h : x = (y : Int)) : (w.alloc (.cells #[.int .u8 x] 5)).ownsRow w.heap.size 5 1 (.slice (some ⟨w.heap.size, 0, none⟩) 1 1) 1 (vals .u8 [y]) := by
  subst h
  exact own1 w y
theorem req5_ok (w : World) (p N : Int) (A : Option Addr) (n c : Nat) :
    Calls Tryz.prog 61 #[callV 5 p A n c N] w (RetBE [5] 0 w) := by
  go_enter Tryz.func61, Tryz.ntmps61
  go_wp2_with fail
  go_ret2
  have h := own_b1 (w.alloc (.cells #[.int .u8 5, .int .i64 p, .slice A n c, .int .i64 N] 34)) 5 5 rfl
  rw [World.size_alloc] at h
  exact retBE_of rfl (own_base h (by omega)) (((Ext.refl w).alloc _).alloc _)
theorem req6_ok (w : World) (p N : Int) (A : Option Addr) (n c : Nat) :
    Calls Tryz.prog 61 #[callV 6 p A n c N] w (RetBE [6] 0 w) := by
  go_enter Tryz.func61, Tryz.ntmps61
  go_wp2_with fail
  go_ret2
  have h := own_b1 (w.alloc (.cells #[.int .u8 6, .int .i64 p, .slice A n c, .int .i64 N] 34)) 6 6 rfl
  rw [World.size_alloc] at h
  exact retBE_of rfl (own_base h (by omega)) (((Ext.refl w).alloc _).alloc _)
theorem req3_err (w : World) (p N : Int) (A : Option Addr) (n c : Nat) (xs : List Nat) (q : Int) (hq : (q == 0) = false) (hr : Rd w A (vals .u8 xs)) (hI : ∀ w, Rd w A (vals .u8 xs) → Calls Tryz.prog 32 #[tokV p A n c N] w (RetBE [] q w)) :
    Calls Tryz.prog 61 #[callV 3 p A n c N] w (RetBE [] q w) := by
  have HI := Lib.hid hI; have Hr := Lib.hid hr; clear hI hr
  have hq' : (q != 0) = true := by simp [bne, hq]
  go_enter Tryz.func61, Tryz.ntmps61
  go_wp2_with fail
  refine (HI.out _ (Hr.out.alloc _)).mono ?_
  rintro e w1 ⟨A1, c1, rfl, hown, hy⟩
  clear hown
  have hx : Ext w w1 := ((Ext.refl w).alloc _).trans hy
  go_wp2_with fail
  go_ret2
  exact retBE_none ⟨rfl, hx⟩
set_option maxHeartbeats 1000000 in
theorem req3_ok (w : World) (p N : Int) (A : Option Addr) (n c : Nat) (xs L : List Nat) (k : Nat) (hk : L.length = k) (hk' : k ≤ 1000) (hr : Rd w A (vals .u8 xs)) (hI : ∀ w, Rd w A (vals .u8 xs) → Calls Tryz.prog 32 #[tokV p A n c N] w (RetBE L 0 w)) :
    Calls Tryz.prog 61 #[callV 3 p A n c N] w (RetBE (3 :: L) 0 w) := by
  have HI := Lib.hid hI; have Hr := Lib.hid hr; have Hk := Lib.hid hk; clear hI hr hk
  go_enter Tryz.func61, Tryz.ntmps61
  go_wp2_with fail
  refine (HI.out _ (Hr.out.alloc _)).mono ?_
  rintro e w1 ⟨A1, c1, rfl, hown, hy⟩
  rw [Hk.out] at hown ⊢
  have hx : Ext w w1 := ((Ext.refl w).alloc _).trans hy
  have R1 := Lib.hid (Rd.of_own hown)
  have k0 : w1.cell? ⟨w.heap.size, 0, none⟩ = some (.int .u8 3) := by
    rw [hy.cell (p := ⟨w.heap.size, 0, none⟩) (by simp)]
    exact World.cell?_alloc_new _ _ _ _
  clear hown
  have hs : w.heap.size ≤ w1.heap.size := hx.size
  go_wp2_with (first | (at_builtin; refine app_u8 _ rfl (.tmp 35) (.tmp 36) rfl w1.heap.size rfl (own_b1 w1 3 3 rfl) rfl Hk.out (R1.out.alloc _) (by omega) (by simp) ?_; intro A2 c2 w2 hown2 hgrow2 _) | fail)
  go_ret2
  refine retBE_of ?_ (own_base hown2 hs) ((hx.alloc _).grown hgrow2 (fun q hq => by simp [Value.ownBlock] at hq; omega))
  show (3 :: L).length = _
  rw [List.length_cons, Hk.out, Nat.add_comm]
end
end Go.Proofs.YtloidkmphigbdaaGreat
