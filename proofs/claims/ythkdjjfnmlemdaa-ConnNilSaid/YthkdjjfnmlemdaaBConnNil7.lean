/- Laid together: what 'ConnNil' needs, part 7 of 7. -/
import Derived.BigRegion
import Derived.Lib.SmallJoins
import Derived.SizedLaws
import Derived.Test.YthkdjjfnmlemdaaBConnNil3
import Derived.Test.YthkdjjfnmlemdaaBConnNil6
namespace Go.Proofs.Ythkdjjfnmlemdaa

section
open Go.RowKit

abbrev repZV : Value := repV 0 false 0 0 0 0
/-- the k-th number's bytes -/
def chunk (z : List Nat) (k : Nat) : List Nat := (z.drop (8 * k)).take 8
theorem docRR_long (w : World) (A : Option Addr) (n c : Nat) (hn : 4096 < n) : Calls Try.prog 45 #[.slice A n c] w (RetE (.tuple #[repZV, .int .i64 2]) w) := by
  go_enter Try.func45, Try.ntmps45
  go_wp2_with fail
  refine bodyPost_ret (ret_rep2 rfl rfl (heap_alloc_new w _)) rfl ?_
  exact ⟨rfl, (Ext.refl w).alloc _⟩
theorem docRR_len (w : World) (A : Option Addr) (n c : Nat) (hn : n ≤ 4096) (h34 : n ≠ 34) : Calls Try.prog 45 #[.slice A n c] w (RetE (.tuple #[repZV, .int .i64 3]) w) := by
  have hb : ((n : Int) != 34) = true := by simp; omega
  go_enter Try.func45, Try.ntmps45
  go_wp2_with fail
  refine bodyPost_ret (ret_rep2 rfl rfl (heap_alloc_new w _)) rfl ?_
  exact ⟨rfl, (Ext.refl w).alloc _⟩
theorem docRR_head (w : World) (b off n c e x1 : Nat) (hn : n = 34) (h0 : w.cell? ⟨b, off, none⟩ = some (.int .u8 (e : Int))) (h1 : w.cell? ⟨b, off + 1, none⟩ = some (.int .u8 (x1 : Int))) (hbad : 16 < e ∨ 1 < x1) :
    Calls Try.prog 45 #[.slice (some ⟨b, off, none⟩) n c] w (RetE (.tuple #[repZV, .int .i64 3]) w) := by
  have hb : ((n : Int) != 34) = false := by simp; omega
  have hn1 : 2 ≤ n := by omega
  have hn2 : n ≤ 4096 := by omega
  have k0 := cell_past h0 (.cells repZ 74 (0, 0)); have k1 := cell_past h1 (.cells repZ 74 (0, 0))
  clear hn h0 h1
  by_cases h16 : 16 < e
  · have hd : decide ((e : Int) > 16) = true := by simp; omega
    clear hbad
    go_enter Try.func45, Try.ntmps45
    go_wp2_with fail
    refine bodyPost_ret (ret_rep2 rfl rfl (heap_alloc_new w _)) rfl ?_
    exact ⟨rfl, (Ext.refl w).alloc _⟩
  · have hd : decide ((e : Int) > 16) = false := by simp; omega
    have hd2 : decide ((x1 : Int) > 1) = true := by simp; omega
    clear hbad h16
    go_enter Try.func45, Try.ntmps45
    go_wp2_with fail
    refine bodyPost_ret (ret_rep2 rfl rfl (heap_alloc_new w _)) rfl ?_
    exact ⟨rfl, (Ext.refl w).alloc _⟩
/-- a field, once it is read -/
def fld (z : List Nat) (k j : Nat) : Value := .int .i64 (if j < k then (numB (chunk z j) : Int) else 0)
def RetRR (e : Nat) (gb : Bool) (z : List Nat) (w : World) (x : Ending) (w' : World) : Prop :=
  ((∀ k : Nat, k < 4 → numB (chunk z k) ≤ 4611686018427387903) → RetE (.tuple #[repV (e : Int) gb (numB (chunk z 0) : Int) (numB (chunk z 1) : Int) (numB (chunk z 2) : Int) (numB (chunk z 3) : Int), .int .i64 0]) w x w') ∧
  ((∃ k : Nat, k < 4 ∧ 4611686018427387903 < numB (chunk z k)) → RetE (.tuple #[repZV, .int .i64 3]) w x w')
set_option maxHeartbeats 4000000 in
set_option maxRecDepth 100000 in
theorem docRR_any (w : World) (A : Option Addr) (n c e x1 : Nat) (z : List Nat) (hn : n = 34) (hnc : n ≤ c) (hl : z.length = 32) (hb : ∀ x ∈ z, x < 256) (he : e ≤ 16) (hx : x1 ≤ 1) (hr : Rd w A (vals .u8 (e :: x1 :: z))) :
    Calls Try.prog 45 #[.slice A n c] w (RetRR e ((x1 : Int) == 1) z w) := by
  have hb34 : ((n : Int) != 34) = false := by simp; omega
  have hn1 : 2 ≤ n := by omega
  have hn2 : n ≤ 4096 := by omega
  have Hr := Lib.hid hr; have Hl := Lib.hid hl; have Hb := Lib.hid hb
  obtain ⟨b, off, hA, hcc⟩ := hr (by simp [vals])
  have h0 : w.cell? ⟨b, off, none⟩ = some (.int .u8 (e : Int)) := hcc 0 _ rfl
  have h1 : w.cell? ⟨b, off + 1, none⟩ = some (.int .u8 (x1 : Int)) := hcc 1 _ rfl
  subst hA
  have k0 := cell_past h0 (.cells repZ 74 (0, 0)); have k1 := cell_past h1 (.cells repZ 74 (0, 0))
  have hd : decide ((e : Int) > 16) = false := by simp; omega
  have hd2 : decide ((x1 : Int) > 1) = false := by simp; omega
  have hw : IntKind.i64.wrap (e : Int) = (e : Int) := by rw [IntKind.wrap_i64]; omega
  obtain ⟨gb, hgb⟩ : ∃ gb : Bool, ((x1 : Int) == 1) = gb := ⟨_, rfl⟩
  rw [hgb]
  have hsl : ∀ k : Nat, k < 4 → ∃ A' : Option Addr, ∃ d, (∀ u : World, (Instr.slice 28 (.slice (some ⟨b, off, none⟩) n c) (some (.int .i64 (2 + 8 * (k : Int)))) (some (.int .i64 (10 + 8 * (k : Int)))) none).run Try.prog u = .ok (.slice A' 8 d) u) ∧ ∀ W, Ext w W → Rd W A' (vals .u8 (chunk z k)) := fun k hk => by
    obtain ⟨A', h1, h2⟩ := slice_mid_any2 Try.underlying28 size_u8 (A := some ⟨b, off, none⟩) (n := n) (c := c) (m := 8) (d := c - (2 + 8 * k)) (2 + 8 * k) (10 + 8 * k) (ki := 2 + 8 * (k : Int)) (hi := 10 + 8 * (k : Int)) (by omega) (by omega) (by omega) hnc (by omega) (by omega)
    refine ⟨A', _, h1, fun W hx => ?_⟩
    have h3 := h2 W (vals .u8 (e :: x1 :: z)) (by rw [vals_len]; simp [Hl.out]; omega) (Hr.out.ext hx)
    have e1 : (((vals .u8 (e :: x1 :: z)).drop (2 + 8 * k)).take 8) = vals .u8 (chunk z k) := by
      rw [Nat.add_comm 2]
      simp [vals, chunk, List.map_take, List.map_drop]
    rw [e1] at h3
    exact h3
  have Hsl := Lib.hid hsl
  have Hch : Hid (∀ k : Nat, k < 4 → (chunk z k).length = 8 ∧ ∀ x ∈ chunk z k, x < 256) := Lib.hid fun k hk => ⟨by unfold chunk; rw [List.length_take, List.length_drop, Hl.out]; omega, fun x hx => Hb.out x (List.mem_of_mem_drop (List.mem_of_mem_take hx))⟩
  clear hn hr hl hb h0 h1 hcc hsl
  go_enter Try.func45, Try.ntmps45
  go_upto_region 5 with fail
  have d0 : ((w.alloc (.cells repZ 74)).alloc (.cells repZ 74)).drew.cell? ⟨b, off, none⟩ = some (.int .u8 (e : Int)) := cell_past k0 _
  have d1 : ((w.alloc (.cells repZ 74)).alloc (.cells repZ 74)).drew.cell? ⟨b, off + 1, none⟩ = some (.int .u8 (x1 : Int)) := cell_past k1 _
  go_cut [4] (fun v wd => v = .pointer (some ⟨w.heap.size + 1, 0, none⟩) ∧ wd.heap[w.heap.size + 1]? = some (.cells #[.int .i64 (e : Int), .bool gb, .int .i64 0, .int .i64 0, .int .i64 0, .int .i64 0] 74 (0, 0)) ∧ wd.heap[w.heap.size]? = some (.cells repZ 74 (0, 0)) ∧ Ext w wd)
  case first =>
    go_region
    all_goals
      go_wp2_with fail
      go_meet
      exact ⟨rfl, blk_newk (w.alloc (.cells repZ 74)) (.cells #[.int .i64 (e : Int), .bool gb, .int .i64 0, .int .i64 0, .int .i64 0, .int .i64 0] 74 (0, 0)) (by simp), blk_past (blk_new w (.cells repZ 74 (0, 0))) _, (((Ext.refl w).alloc _).alloc _).drew⟩
  case rest =>
    obtain ⟨rfl, hK, hZ, hxc⟩ := hcut
    have HK := Lib.hid hK; have HZ := Lib.hid hZ
    clear hK hZ d0 d1 k0 k1
    go_wp2_with fail
    go_loopw [36] (fun i wr => ∃ k : Nat, k ≤ 4 ∧ i = .int .i64 (k : Int) ∧ (∀ j : Nat, j < k → numB (chunk z j) ≤ 4611686018427387903) ∧ wr.heap[w.heap.size + 1]? = some (.cells #[.int .i64 (e : Int), .bool gb, fld z k 0, fld z k 1, fld z k 2, fld z k 3] 74 (0, 0)) ∧ wr.heap[w.heap.size]? = some (.cells repZ 74 (0, 0)) ∧ Ext w wr) (fun i _ => 4 - (intOf i).toNat)
    case atStart => exact ⟨0, Nat.zero_le _, rfl, fun j hj => by omega, HK.out, HZ.out, hxc⟩
    case round =>
      obtain ⟨k, hk, rfl, hprev, hK, hZ, hxr⟩ := hrel
      have HPrev := Lib.hid hprev; have HK := Lib.hid hK; have HZ := Lib.hid hZ
      clear hprev hK hZ
      rcases (show k = 0 ∨ k = 1 ∨ k = 2 ∨ k = 3 ∨ k = 4 by omega) with rfl | rfl | rfl | rfl | rfl
      · have hK' : wr.heap[w.heap.size + 1]? = some (.cells #[.int .i64 (e : Int), .bool gb, .int .i64 0, .int .i64 0, .int .i64 0, .int .i64 0] 74 (0, 0)) := HK.out
        obtain ⟨A', d, hs, hrd⟩ := Hsl.out 0 (by omega)
        have hs' : ∀ u : World, (Instr.slice 28 (.slice (some ⟨b, off, none⟩) n c) (some (.int .i64 2)) (some (.int .i64 10)) none).run Try.prog u = .ok (.slice A' 8 d) u := hs
        have hcl := Hch.out 0 (by omega)
        have C := Lib.hid (docNumber_any wr A' 8 d (chunk z 0) hcl.1 (by omega) hcl.2 (hrd wr hxr))
        clear hs hrd hcl
        have c2 := blk_cell hK' 2; have f2 := blk_frozen hK' 2
        go_wp2_with fail
        refine C.out.mono ?_
        rintro x w1 ⟨rfl, rfl⟩
        obtain ⟨v, hv⟩ : ∃ v, numB (chunk z 0) = v := ⟨_, rfl⟩
        rw [hv]
        have Hv := Lib.hid hv; clear hv C
        by_cases hbig : 4611686018427387903 < v
        · have hd3 : decide ((v : Int) > 4611686018427387903) = true := by simp; omega
          have Hbig := Lib.hid hbig; clear hbig
          have z0 := blk_cell HZ.out 0; have z1 := blk_cell HZ.out 1; have z2 := blk_cell HZ.out 2; have z3 := blk_cell HZ.out 3; have z4 := blk_cell HZ.out 4; have z5 := blk_cell HZ.out 5
          have g0 := blk_frozen HZ.out 0; have g1 := blk_frozen HZ.out 1; have g2 := blk_frozen HZ.out 2; have g3 := blk_frozen HZ.out 3; have g4 := blk_frozen HZ.out 4; have g5 := blk_frozen HZ.out 5
          go_wp2_with fail
          refine bodyPost_ret (ret_rep2 rfl rfl (row6 HZ.out _ _ _ _ _ _)) rfl ?_
          refine ⟨fun h => ?_, fun _ => ⟨rfl, ext_row6 hxr (Nat.le_refl _) _ _ _ _ _ _⟩⟩
          have h9 := h 0 (by omega)
          rw [Hv.out] at h9
          exact absurd Hbig.out (by omega)
        · have hd3 : decide ((v : Int) > 4611686018427387903) = false := by simp; omega
          have hwv : IntKind.i64.wrap (v : Int) = (v : Int) := by rw [IntKind.wrap_i64]; omega
          have hvb : v ≤ 4611686018427387903 := by omega
          have Hvb := Lib.hid hvb; clear hbig hvb
          go_wp2_with fail
          go_roundw
          case rel =>
            refine ⟨1, by omega, by go_num, fun j hj => ?_, ?_, blk_grown HZ.out (grown_set wr (w.heap.size + 1) 2 _) (by omega), ext_grown hxr (grown_set wr (w.heap.size + 1) 2 _) (by omega)⟩
            · by_cases e1 : j = 0
              · rw [e1, Hv.out]; exact Hvb.out
              · exact HPrev.out j (by omega)
            · have h7 := blk_set hK' 2 (.int .i64 (v : Int))
              rw [← Hv.out] at h7 ⊢
              exact h7
          case measure => simp [intOf]
      · have hK' : wr.heap[w.heap.size + 1]? = some (.cells #[.int .i64 (e : Int), .bool gb, .int .i64 (numB (chunk z 0) : Int), .int .i64 0, .int .i64 0, .int .i64 0] 74 (0, 0)) := HK.out
        obtain ⟨A', d, hs, hrd⟩ := Hsl.out 1 (by omega)
        have hs' : ∀ u : World, (Instr.slice 28 (.slice (some ⟨b, off, none⟩) n c) (some (.int .i64 10)) (some (.int .i64 18)) none).run Try.prog u = .ok (.slice A' 8 d) u := hs
        have hcl := Hch.out 1 (by omega)
        have C := Lib.hid (docNumber_any wr A' 8 d (chunk z 1) hcl.1 (by omega) hcl.2 (hrd wr hxr))
        clear hs hrd hcl
        have c3 := blk_cell hK' 3; have f3 := blk_frozen hK' 3
        go_wp2_with fail
        refine C.out.mono ?_
        rintro x w1 ⟨rfl, rfl⟩
        obtain ⟨v, hv⟩ : ∃ v, numB (chunk z 1) = v := ⟨_, rfl⟩
        rw [hv]
        have Hv := Lib.hid hv; clear hv C
        by_cases hbig : 4611686018427387903 < v
        · have hd3 : decide ((v : Int) > 4611686018427387903) = true := by simp; omega
          have Hbig := Lib.hid hbig; clear hbig
          have z0 := blk_cell HZ.out 0; have z1 := blk_cell HZ.out 1; have z2 := blk_cell HZ.out 2; have z3 := blk_cell HZ.out 3; have z4 := blk_cell HZ.out 4; have z5 := blk_cell HZ.out 5
          have g0 := blk_frozen HZ.out 0; have g1 := blk_frozen HZ.out 1; have g2 := blk_frozen HZ.out 2; have g3 := blk_frozen HZ.out 3; have g4 := blk_frozen HZ.out 4; have g5 := blk_frozen HZ.out 5
          go_wp2_with fail
          refine bodyPost_ret (ret_rep2 rfl rfl (row6 HZ.out _ _ _ _ _ _)) rfl ?_
          refine ⟨fun h => ?_, fun _ => ⟨rfl, ext_row6 hxr (Nat.le_refl _) _ _ _ _ _ _⟩⟩
          have h9 := h 1 (by omega)
          rw [Hv.out] at h9
          exact absurd Hbig.out (by omega)
        · have hd3 : decide ((v : Int) > 4611686018427387903) = false := by simp; omega
          have hwv : IntKind.i64.wrap (v : Int) = (v : Int) := by rw [IntKind.wrap_i64]; omega
          have hvb : v ≤ 4611686018427387903 := by omega
          have Hvb := Lib.hid hvb; clear hbig hvb
          go_wp2_with fail
          go_roundw
          case rel =>
            refine ⟨2, by omega, by go_num, fun j hj => ?_, ?_, blk_grown HZ.out (grown_set wr (w.heap.size + 1) 3 _) (by omega), ext_grown hxr (grown_set wr (w.heap.size + 1) 3 _) (by omega)⟩
            · by_cases e1 : j = 1
              · rw [e1, Hv.out]; exact Hvb.out
              · exact HPrev.out j (by omega)
            · have h7 := blk_set hK' 3 (.int .i64 (v : Int))
              rw [← Hv.out] at h7 ⊢
              exact h7
          case measure => simp [intOf]
      · have hK' : wr.heap[w.heap.size + 1]? = some (.cells #[.int .i64 (e : Int), .bool gb, .int .i64 (numB (chunk z 0) : Int), .int .i64 (numB (chunk z 1) : Int), .int .i64 0, .int .i64 0] 74 (0, 0)) := HK.out
        obtain ⟨A', d, hs, hrd⟩ := Hsl.out 2 (by omega)
        have hs' : ∀ u : World, (Instr.slice 28 (.slice (some ⟨b, off, none⟩) n c) (some (.int .i64 18)) (some (.int .i64 26)) none).run Try.prog u = .ok (.slice A' 8 d) u := hs
        have hcl := Hch.out 2 (by omega)
        have C := Lib.hid (docNumber_any wr A' 8 d (chunk z 2) hcl.1 (by omega) hcl.2 (hrd wr hxr))
        clear hs hrd hcl
        have c4 := blk_cell hK' 4; have f4 := blk_frozen hK' 4
        go_wp2_with fail
        refine C.out.mono ?_
        rintro x w1 ⟨rfl, rfl⟩
        obtain ⟨v, hv⟩ : ∃ v, numB (chunk z 2) = v := ⟨_, rfl⟩
        rw [hv]
        have Hv := Lib.hid hv; clear hv C
        by_cases hbig : 4611686018427387903 < v
        · have hd3 : decide ((v : Int) > 4611686018427387903) = true := by simp; omega
          have Hbig := Lib.hid hbig; clear hbig
          have z0 := blk_cell HZ.out 0; have z1 := blk_cell HZ.out 1; have z2 := blk_cell HZ.out 2; have z3 := blk_cell HZ.out 3; have z4 := blk_cell HZ.out 4; have z5 := blk_cell HZ.out 5
          have g0 := blk_frozen HZ.out 0; have g1 := blk_frozen HZ.out 1; have g2 := blk_frozen HZ.out 2; have g3 := blk_frozen HZ.out 3; have g4 := blk_frozen HZ.out 4; have g5 := blk_frozen HZ.out 5
          go_wp2_with fail
          refine bodyPost_ret (ret_rep2 rfl rfl (row6 HZ.out _ _ _ _ _ _)) rfl ?_
          refine ⟨fun h => ?_, fun _ => ⟨rfl, ext_row6 hxr (Nat.le_refl _) _ _ _ _ _ _⟩⟩
          have h9 := h 2 (by omega)
          rw [Hv.out] at h9
          exact absurd Hbig.out (by omega)
        · have hd3 : decide ((v : Int) > 4611686018427387903) = false := by simp; omega
          have hwv : IntKind.i64.wrap (v : Int) = (v : Int) := by rw [IntKind.wrap_i64]; omega
          have hvb : v ≤ 4611686018427387903 := by omega
          have Hvb := Lib.hid hvb; clear hbig hvb
          go_wp2_with fail
          go_roundw
          case rel =>
            refine ⟨3, by omega, by go_num, fun j hj => ?_, ?_, blk_grown HZ.out (grown_set wr (w.heap.size + 1) 4 _) (by omega), ext_grown hxr (grown_set wr (w.heap.size + 1) 4 _) (by omega)⟩
            · by_cases e1 : j = 2
              · rw [e1, Hv.out]; exact Hvb.out
              · exact HPrev.out j (by omega)
            · have h7 := blk_set hK' 4 (.int .i64 (v : Int))
              rw [← Hv.out] at h7 ⊢
              exact h7
          case measure => simp [intOf]
      · have hK' : wr.heap[w.heap.size + 1]? = some (.cells #[.int .i64 (e : Int), .bool gb, .int .i64 (numB (chunk z 0) : Int), .int .i64 (numB (chunk z 1) : Int), .int .i64 (numB (chunk z 2) : Int), .int .i64 0] 74 (0, 0)) := HK.out
        obtain ⟨A', d, hs, hrd⟩ := Hsl.out 3 (by omega)
        have hs' : ∀ u : World, (Instr.slice 28 (.slice (some ⟨b, off, none⟩) n c) (some (.int .i64 26)) (some (.int .i64 34)) none).run Try.prog u = .ok (.slice A' 8 d) u := hs
        have hcl := Hch.out 3 (by omega)
        have C := Lib.hid (docNumber_any wr A' 8 d (chunk z 3) hcl.1 (by omega) hcl.2 (hrd wr hxr))
        clear hs hrd hcl
        have c5 := blk_cell hK' 5; have f5 := blk_frozen hK' 5
        go_wp2_with fail
        refine C.out.mono ?_
        rintro x w1 ⟨rfl, rfl⟩
        obtain ⟨v, hv⟩ : ∃ v, numB (chunk z 3) = v := ⟨_, rfl⟩
        rw [hv]
        have Hv := Lib.hid hv; clear hv C
        by_cases hbig : 4611686018427387903 < v
        · have hd3 : decide ((v : Int) > 4611686018427387903) = true := by simp; omega
          have Hbig := Lib.hid hbig; clear hbig
          have z0 := blk_cell HZ.out 0; have z1 := blk_cell HZ.out 1; have z2 := blk_cell HZ.out 2; have z3 := blk_cell HZ.out 3; have z4 := blk_cell HZ.out 4; have z5 := blk_cell HZ.out 5
          have g0 := blk_frozen HZ.out 0; have g1 := blk_frozen HZ.out 1; have g2 := blk_frozen HZ.out 2; have g3 := blk_frozen HZ.out 3; have g4 := blk_frozen HZ.out 4; have g5 := blk_frozen HZ.out 5
          go_wp2_with fail
          refine bodyPost_ret (ret_rep2 rfl rfl (row6 HZ.out _ _ _ _ _ _)) rfl ?_
          refine ⟨fun h => ?_, fun _ => ⟨rfl, ext_row6 hxr (Nat.le_refl _) _ _ _ _ _ _⟩⟩
          have h9 := h 3 (by omega)
          rw [Hv.out] at h9
          exact absurd Hbig.out (by omega)
        · have hd3 : decide ((v : Int) > 4611686018427387903) = false := by simp; omega
          have hwv : IntKind.i64.wrap (v : Int) = (v : Int) := by rw [IntKind.wrap_i64]; omega
          have hvb : v ≤ 4611686018427387903 := by omega
          have Hvb := Lib.hid hvb; clear hbig hvb
          go_wp2_with fail
          go_roundw
          case rel =>
            refine ⟨4, by omega, by go_num, fun j hj => ?_, ?_, blk_grown HZ.out (grown_set wr (w.heap.size + 1) 5 _) (by omega), ext_grown hxr (grown_set wr (w.heap.size + 1) 5 _) (by omega)⟩
            · by_cases e1 : j = 3
              · rw [e1, Hv.out]; exact Hvb.out
              · exact HPrev.out j (by omega)
            · have h7 := blk_set hK' 5 (.int .i64 (v : Int))
              rw [← Hv.out] at h7 ⊢
              exact h7
          case measure => simp [intOf]
      · have z0 := blk_cell HZ.out 0; have z1 := blk_cell HZ.out 1; have z2 := blk_cell HZ.out 2; have z3 := blk_cell HZ.out 3; have z4 := blk_cell HZ.out 4; have z5 := blk_cell HZ.out 5
        have g0 := blk_frozen HZ.out 0; have g1 := blk_frozen HZ.out 1; have g2 := blk_frozen HZ.out 2; have g3 := blk_frozen HZ.out 3; have g4 := blk_frozen HZ.out 4; have g5 := blk_frozen HZ.out 5
        have hK' : wr.heap[w.heap.size + 1]? = some (.cells #[.int .i64 (e : Int), .bool gb, .int .i64 (numB (chunk z 0) : Int), .int .i64 (numB (chunk z 1) : Int), .int .i64 (numB (chunk z 2) : Int), .int .i64 (numB (chunk z 3) : Int)] 74 (0, 0)) := HK.out
        have y0 := blk_cell hK' 0; have y1 := blk_cell hK' 1; have y2 := blk_cell hK' 2; have y3 := blk_cell hK' 3; have y4 := blk_cell hK' 4; have y5 := blk_cell hK' 5
        go_wp2_with fail
        refine bodyPost_ret (ret_rep2 rfl rfl (row6 HZ.out _ _ _ _ _ _)) rfl ?_
        refine ⟨fun _ => ⟨rfl, ext_row6 hxr (Nat.le_refl _) _ _ _ _ _ _⟩, fun ⟨j, hj, hbig⟩ => ?_⟩
        have := HPrev.out j hj
        omega
end

section
open Go.RowKit

theorem wnumber_wrong (w : World) (r S : Nat) (zs : List Nat) (hb : ∀ x ∈ zs, x < 256) (h : IsWs w r S zs) (hno : ¬ (8 ≤ zs.length ∧ numB (zs.take 8) ≤ 4611686018427387903)) :
    Calls Try.prog 83 #[.pointer (some ⟨r, 0, none⟩)] w (WrongR w r) := by
  refine (wnumber_any w r S zs hb h).mono ?_
  rintro e w' ⟨hg, _, hh⟩
  rcases hh with ⟨h8, hN, _⟩ | ⟨_, he⟩
  · exact absurd ⟨h8, hN⟩ hno
  · exact ⟨he, hg⟩
theorem byRep_few (w : World) (r S g : Nat) (z : List Nat) (hlen : z.length < 2) (h : IsWs w r S z) :
    Calls Try.prog 80 #[.pointer (some ⟨r, 0, none⟩), .pointer (some ⟨g, 0, none⟩)] w (WrongR w r) := by
  have H := Lib.hid h; clear h
  go_enter Try.func80, Try.ntmps80
  go_wp2_with fail
  refine (wtake_no _ r S 2 _ H.out hlen).mono ?_
  rintro e w' ⟨rfl, rfl⟩
  exact ⟨rfl, rfl, World.grownBy.refl _ _⟩

set_option maxHeartbeats 2000000 in
set_option maxRecDepth 100000 in
theorem byRep_head (w : World) (r S g e x1 : Nat) (z : List Nat) (he : e < 256) (hx : x1 < 256) (hbad : 16 < e ∨ 1 < x1) (h : IsWs w r S (e :: x1 :: z)) :
    Calls Try.prog 80 #[.pointer (some ⟨r, 0, none⟩), .pointer (some ⟨g, 0, none⟩)] w (WrongR w r) := by
  have H := Lib.hid h; clear h
  go_enter Try.func80, Try.ntmps80
  go_wp2_with fail
  refine (wtake_ok _ r S 2 _ H.out (by simp)).mono ?_
  rintro e' w2 ⟨A2, c2, rfl, hc2, hR2, hS2, hg2, hz2, hbl2⟩
  obtain ⟨b2, off2, rfl, hcc⟩ := hR2 (by simp [vals])
  have h0 : w2.cell? ⟨b2, off2, none⟩ = some (.int .u8 (e : Int)) := hcc 0 _ rfl
  have h1 : w2.cell? ⟨b2, off2 + 1, none⟩ = some (.int .u8 (x1 : Int)) := hcc 1 _ rfl
  obtain ⟨hbr, hbS⟩ := hbl2 (by simp) _ rfl
  have hbr : b2 ≠ r := hbr
  have HG2 := Lib.hid hg2
  have hw : IntKind.i64.wrap (e : Int) = (e : Int) := by rw [IntKind.wrap_i64]; omega
  clear hcc hR2 hS2 hg2 hbl2 H
  by_cases h16 : 16 < e
  · have hd1 : decide ((e : Int) ≤ 16) = false := by simp; omega
    clear hbad
    go_wp2_with fail
    refine (must_no _ _).mono ?_
    rintro e' w' ⟨rfl, rfl⟩
    exact ⟨rfl, rfl, HG2.out⟩
  · have hd1 : decide ((e : Int) ≤ 16) = true := by simp; omega
    have hd2 : decide ((x1 : Int) ≤ 1) = false := by simp; omega
    clear hbad h16
    go_wp2_with fail
    refine (must_no _ _).mono ?_
    rintro e' w' ⟨rfl, rfl⟩
    exact ⟨rfl, rfl, HG2.out⟩

set_option maxHeartbeats 4000000 in
set_option maxRecDepth 100000 in
theorem byRep_num0 (w : World) (r S g e x1 : Nat) (u : List Nat) (he : e ≤ 16) (hx1' : x1 ≤ 1) (hub : ∀ x ∈ u, x < 256) (hno : ¬ (8 ≤ u.length ∧ numB (u.take 8) ≤ 4611686018427387903))
    (h : IsWs w r S (e :: x1 :: (u))) :
    Calls Try.prog 80 #[.pointer (some ⟨r, 0, none⟩), .pointer (some ⟨g, 0, none⟩)] w (WrongR w r) := by
  have H := Lib.hid h; have Hno := Lib.hid hno; have Hub := Lib.hid hub; clear h hno hub
  go_enter Try.func80, Try.ntmps80
  go_wp2_with fail
  refine (wtake_ok _ r S 2 _ H.out (by simp)).mono ?_
  rintro e' w2 ⟨A2, c2, rfl, hc2, hR2, hS2, hg2, hz2, hbl2⟩
  obtain ⟨b2, off2, rfl, hcc⟩ := hR2 (by simp [vals])
  have h0 : w2.cell? ⟨b2, off2, none⟩ = some (.int .u8 (e : Int)) := hcc 0 _ rfl
  have h1 : w2.cell? ⟨b2, off2 + 1, none⟩ = some (.int .u8 (x1 : Int)) := hcc 1 _ rfl
  obtain ⟨hbr, hbS⟩ := hbl2 (by simp) _ rfl
  have hbr : b2 ≠ r := hbr
  have HG2 := Lib.hid hg2
  have hw : IntKind.i64.wrap (e : Int) = (e : Int) := by rw [IntKind.wrap_i64]; omega
  have hS0 : IsWs w2.drew r S (u) := hS2
  have HS0 := Lib.hid hS0
  have hd1 : decide ((e : Int) ≤ 16) = true := by simp; omega
  have hd2 : decide ((x1 : Int) ≤ 1) = true := by simp; omega
  clear hcc hR2 hS2 hS0 hg2 hbl2 H
  go_wp2_with fail
  refine (must_ok _ _).mono ?_
  rintro e' w' ⟨rfl, rfl⟩
  have far : ∀ (a b : World) (o : Nat) (v : Value), a.grownBy b (some r) → a.cell? ⟨b2, o, none⟩ = some v → b.cell? ⟨b2, o, none⟩ = some v := fun a b o v hG hv => (hG.cell_far ⟨b2, o, none⟩ (World.block_lt_of_cell? a _ hv) (fun q => hbr (by injection q))).trans hv
  have Far := Lib.hid far; clear far
  have p0 : w2.drew.cell? ⟨b2, off2, none⟩ = some (.int .u8 (e : Int)) := h0
  have p1 : w2.drew.cell? ⟨b2, off2 + 1, none⟩ = some (.int .u8 (x1 : Int)) := h1
  go_upto_region 2 with fail
  go_region_with (first
    | (go_at_call 83; (with_reducible refine (wnumber_wrong w2.drew r S u Hub.out HS0.out Hno.out).mono ?_); rintro ez vz ⟨rfl, hgz⟩; refine over_any (w := w2) ⟨rfl, rfl, World.grown_trans HG2.out (grown_undrew hgz)⟩ ?_))
  all_goals exact trivial

set_option maxHeartbeats 4000000 in
set_option maxRecDepth 100000 in
theorem byRep_num1 (w : World) (r S g e x1 l : Nat) (u : List Nat) (he : e ≤ 16) (hx1' : x1 ≤ 1) (hl : l ≤ 4611686018427387903) (hub : ∀ x ∈ u, x < 256) (hno : ¬ (8 ≤ u.length ∧ numB (u.take 8) ≤ 4611686018427387903))
    (h : IsWs w r S (e :: x1 :: (wordB l 8 ++ (u)))) :
    Calls Try.prog 80 #[.pointer (some ⟨r, 0, none⟩), .pointer (some ⟨g, 0, none⟩)] w (WrongR w r) := by
  have H := Lib.hid h; have Hno := Lib.hid hno; have Hub := Lib.hid hub; clear h hno hub
  go_enter Try.func80, Try.ntmps80
  go_wp2_with fail
  refine (wtake_ok _ r S 2 _ H.out (by simp)).mono ?_
  rintro e' w2 ⟨A2, c2, rfl, hc2, hR2, hS2, hg2, hz2, hbl2⟩
  obtain ⟨b2, off2, rfl, hcc⟩ := hR2 (by simp [vals])
  have h0 : w2.cell? ⟨b2, off2, none⟩ = some (.int .u8 (e : Int)) := hcc 0 _ rfl
  have h1 : w2.cell? ⟨b2, off2 + 1, none⟩ = some (.int .u8 (x1 : Int)) := hcc 1 _ rfl
  obtain ⟨hbr, hbS⟩ := hbl2 (by simp) _ rfl
  have hbr : b2 ≠ r := hbr
  have HG2 := Lib.hid hg2
  have hw : IntKind.i64.wrap (e : Int) = (e : Int) := by rw [IntKind.wrap_i64]; omega
  have hS0 : IsWs w2.drew r S (wordB l 8 ++ (u)) := hS2
  have HS0 := Lib.hid hS0
  have hd1 : decide ((e : Int) ≤ 16) = true := by simp; omega
  have hd2 : decide ((x1 : Int) ≤ 1) = true := by simp; omega
  clear hcc hR2 hS2 hS0 hg2 hbl2 H
  go_wp2_with fail
  refine (must_ok _ _).mono ?_
  rintro e' w' ⟨rfl, rfl⟩
  have far : ∀ (a b : World) (o : Nat) (v : Value), a.grownBy b (some r) → a.cell? ⟨b2, o, none⟩ = some v → b.cell? ⟨b2, o, none⟩ = some v := fun a b o v hG hv => (hG.cell_far ⟨b2, o, none⟩ (World.block_lt_of_cell? a _ hv) (fun q => hbr (by injection q))).trans hv
  have Far := Lib.hid far; clear far
  have p0 : w2.drew.cell? ⟨b2, off2, none⟩ = some (.int .u8 (e : Int)) := h0
  have p1 : w2.drew.cell? ⟨b2, off2 + 1, none⟩ = some (.int .u8 (x1 : Int)) := h1
  go_upto_region 2 with fail
  go_region_with (first
    | (go_at_call 83; (with_reducible refine (wnum_word w2.drew r S l _ hl Hub.out HS0.out).mono ?_); rintro e1 v1 ⟨rfl, hs1, hg1⟩; have a1 := Far.out _ _ _ _ hg1 p0; have b1 := Far.out _ _ _ _ hg1 p1; have HS1 := Lib.hid hs1; have HGG1 := Lib.hid (World.grown_trans HG2.out (grown_undrew hg1)); clear hs1 hg1)
    | (go_at_call 83; (with_reducible refine (wnumber_wrong v1 r S u Hub.out HS1.out Hno.out).mono ?_); rintro ez vz ⟨rfl, hgz⟩; refine over_any (w := w2) ⟨rfl, rfl, World.grown_trans HGG1.out hgz⟩ ?_))
  all_goals exact trivial
end

section
open Go.RowKit

set_option maxHeartbeats 40000000 in
set_option maxRecDepth 100000 in
theorem byRep_num2 (w : World) (r S g e x1 l t : Nat) (u : List Nat) (he : e ≤ 16) (hx1' : x1 ≤ 1) (hl : l ≤ 4611686018427387903) (ht : t ≤ 4611686018427387903) (hub : ∀ x ∈ u, x < 256) (hno : ¬ (8 ≤ u.length ∧ numB (u.take 8) ≤ 4611686018427387903))
    (h : IsWs w r S (e :: x1 :: (wordB l 8 ++ (wordB t 8 ++ (u))))) :
    Calls Try.prog 80 #[.pointer (some ⟨r, 0, none⟩), .pointer (some ⟨g, 0, none⟩)] w (WrongR w r) := by
  have H := Lib.hid h; have Hno := Lib.hid hno; have Hub := Lib.hid hub; clear h hno hub
  have B1 := Lib.hid (show ∀ x ∈ (wordB t 8 ++ (u)), x < 256 from fun x hx => by
    rcases List.mem_append.1 hx with hx | hx
    · exact wordB_lt _ _ x hx
    · exact Hub.out x hx)
  go_enter Try.func80, Try.ntmps80
  go_wp2_with fail
  refine (wtake_ok _ r S 2 _ H.out (by simp)).mono ?_
  rintro e' w2 ⟨A2, c2, rfl, hc2, hR2, hS2, hg2, hz2, hbl2⟩
  obtain ⟨b2, off2, rfl, hcc⟩ := hR2 (by simp [vals])
  have h0 : w2.cell? ⟨b2, off2, none⟩ = some (.int .u8 (e : Int)) := hcc 0 _ rfl
  have h1 : w2.cell? ⟨b2, off2 + 1, none⟩ = some (.int .u8 (x1 : Int)) := hcc 1 _ rfl
  obtain ⟨hbr, hbS⟩ := hbl2 (by simp) _ rfl
  have hbr : b2 ≠ r := hbr
  have HG2 := Lib.hid hg2
  have hw : IntKind.i64.wrap (e : Int) = (e : Int) := by rw [IntKind.wrap_i64]; omega
  have hS0 : IsWs w2.drew r S (wordB l 8 ++ (wordB t 8 ++ (u))) := hS2
  have HS0 := Lib.hid hS0
  have hd1 : decide ((e : Int) ≤ 16) = true := by simp; omega
  have hd2 : decide ((x1 : Int) ≤ 1) = true := by simp; omega
  clear hcc hR2 hS2 hS0 hg2 hbl2 H
  go_wp2_with fail
  refine (must_ok _ _).mono ?_
  rintro e' w' ⟨rfl, rfl⟩
  have far : ∀ (a b : World) (o : Nat) (v : Value), a.grownBy b (some r) → a.cell? ⟨b2, o, none⟩ = some v → b.cell? ⟨b2, o, none⟩ = some v := fun a b o v hG hv => (hG.cell_far ⟨b2, o, none⟩ (World.block_lt_of_cell? a _ hv) (fun q => hbr (by injection q))).trans hv
  have Far := Lib.hid far; clear far
  have p0 : w2.drew.cell? ⟨b2, off2, none⟩ = some (.int .u8 (e : Int)) := h0
  have p1 : w2.drew.cell? ⟨b2, off2 + 1, none⟩ = some (.int .u8 (x1 : Int)) := h1
  go_upto_region 2 with fail
  go_region_with (first
    | (go_at_call 83; (with_reducible refine (wnum_word w2.drew r S l _ hl B1.out HS0.out).mono ?_); rintro e1 v1 ⟨rfl, hs1, hg1⟩; have a1 := Far.out _ _ _ _ hg1 p0; have b1 := Far.out _ _ _ _ hg1 p1; have HS1 := Lib.hid hs1; have HGG1 := Lib.hid (World.grown_trans HG2.out (grown_undrew hg1)); clear hs1 hg1)
    | (go_at_call 83; (with_reducible refine (wnum_word v1 r S t _ ht Hub.out HS1.out).mono ?_); rintro e2 v2 ⟨rfl, hs2, hg2⟩; have a2 := Far.out _ _ _ _ hg2 a1; have b2 := Far.out _ _ _ _ hg2 b1; have HS2 := Lib.hid hs2; have HGG2 := Lib.hid (World.grown_trans HGG1.out hg2); clear hs2 hg2)
    | (go_at_call 83; (with_reducible refine (wnumber_wrong v2 r S u Hub.out HS2.out Hno.out).mono ?_); rintro ez vz ⟨rfl, hgz⟩; refine over_any (w := w2) ⟨rfl, rfl, World.grown_trans HGG2.out hgz⟩ ?_))
  all_goals exact trivial
end

section
open Go.RowKit

set_option maxHeartbeats 40000000 in
set_option maxRecDepth 100000 in
theorem byRep_num3 (w : World) (r S g e x1 l t s : Nat) (u : List Nat) (he : e ≤ 16) (hx1' : x1 ≤ 1) (hl : l ≤ 4611686018427387903) (ht : t ≤ 4611686018427387903) (hs : s ≤ 4611686018427387903) (hub : ∀ x ∈ u, x < 256) (hno : ¬ (8 ≤ u.length ∧ numB (u.take 8) ≤ 4611686018427387903))
    (h : IsWs w r S (e :: x1 :: (wordB l 8 ++ (wordB t 8 ++ (wordB s 8 ++ (u)))))) :
    Calls Try.prog 80 #[.pointer (some ⟨r, 0, none⟩), .pointer (some ⟨g, 0, none⟩)] w (WrongR w r) := by
  have H := Lib.hid h; have Hno := Lib.hid hno; have Hub := Lib.hid hub; clear h hno hub
  have B2 := Lib.hid (show ∀ x ∈ (wordB s 8 ++ (u)), x < 256 from fun x hx => by
    rcases List.mem_append.1 hx with hx | hx
    · exact wordB_lt _ _ x hx
    · exact Hub.out x hx)
  have B1 := Lib.hid (show ∀ x ∈ (wordB t 8 ++ (wordB s 8 ++ (u))), x < 256 from fun x hx => by
    rcases List.mem_append.1 hx with hx | hx
    · exact wordB_lt _ _ x hx
    · exact B2.out x hx)
  go_enter Try.func80, Try.ntmps80
  go_wp2_with fail
  refine (wtake_ok _ r S 2 _ H.out (by simp)).mono ?_
  rintro e' w2 ⟨A2, c2, rfl, hc2, hR2, hS2, hg2, hz2, hbl2⟩
  obtain ⟨b2, off2, rfl, hcc⟩ := hR2 (by simp [vals])
  have h0 : w2.cell? ⟨b2, off2, none⟩ = some (.int .u8 (e : Int)) := hcc 0 _ rfl
  have h1 : w2.cell? ⟨b2, off2 + 1, none⟩ = some (.int .u8 (x1 : Int)) := hcc 1 _ rfl
  obtain ⟨hbr, hbS⟩ := hbl2 (by simp) _ rfl
  have hbr : b2 ≠ r := hbr
  have HG2 := Lib.hid hg2
  have hw : IntKind.i64.wrap (e : Int) = (e : Int) := by rw [IntKind.wrap_i64]; omega
  have hS0 : IsWs w2.drew r S (wordB l 8 ++ (wordB t 8 ++ (wordB s 8 ++ (u)))) := hS2
  have HS0 := Lib.hid hS0
  have hd1 : decide ((e : Int) ≤ 16) = true := by simp; omega
  have hd2 : decide ((x1 : Int) ≤ 1) = true := by simp; omega
  clear hcc hR2 hS2 hS0 hg2 hbl2 H
  go_wp2_with fail
  refine (must_ok _ _).mono ?_
  rintro e' w' ⟨rfl, rfl⟩
  have far : ∀ (a b : World) (o : Nat) (v : Value), a.grownBy b (some r) → a.cell? ⟨b2, o, none⟩ = some v → b.cell? ⟨b2, o, none⟩ = some v := fun a b o v hG hv => (hG.cell_far ⟨b2, o, none⟩ (World.block_lt_of_cell? a _ hv) (fun q => hbr (by injection q))).trans hv
  have Far := Lib.hid far; clear far
  have p0 : w2.drew.cell? ⟨b2, off2, none⟩ = some (.int .u8 (e : Int)) := h0
  have p1 : w2.drew.cell? ⟨b2, off2 + 1, none⟩ = some (.int .u8 (x1 : Int)) := h1
  go_upto_region 2 with fail
  go_region_with (first
    | (go_at_call 83; (with_reducible refine (wnum_word w2.drew r S l _ hl B1.out HS0.out).mono ?_); rintro e1 v1 ⟨rfl, hs1, hg1⟩; have a1 := Far.out _ _ _ _ hg1 p0; have b1 := Far.out _ _ _ _ hg1 p1; have HS1 := Lib.hid hs1; have HGG1 := Lib.hid (World.grown_trans HG2.out (grown_undrew hg1)); clear hs1 hg1)
    | (go_at_call 83; (with_reducible refine (wnum_word v1 r S t _ ht B2.out HS1.out).mono ?_); rintro e2 v2 ⟨rfl, hs2, hg2⟩; have a2 := Far.out _ _ _ _ hg2 a1; have b2 := Far.out _ _ _ _ hg2 b1; have HS2 := Lib.hid hs2; have HGG2 := Lib.hid (World.grown_trans HGG1.out hg2); clear hs2 hg2)
    | (go_at_call 83; (with_reducible refine (wnum_word v2 r S s _ hs Hub.out HS2.out).mono ?_); rintro e3 v3 ⟨rfl, hs3, hg3⟩; have a3 := Far.out _ _ _ _ hg3 a2; have b3 := Far.out _ _ _ _ hg3 b2; have HS3 := Lib.hid hs3; have HGG3 := Lib.hid (World.grown_trans HGG2.out hg3); clear hs3 hg3)
    | (go_at_call 83; (with_reducible refine (wnumber_wrong v3 r S u Hub.out HS3.out Hno.out).mono ?_); rintro ez vz ⟨rfl, hgz⟩; refine over_any (w := w2) ⟨rfl, rfl, World.grown_trans HGG3.out hgz⟩ ?_))
  all_goals exact trivial
end

section
open Go.RowKit

theorem rep_cases (e : Int) (g : Bool) (l t s n : Int) :
    ∃ (q : Int) (B : List Nat), ((q = 1 ∧ B = [] ∧ ¬ (0 ≤ e ∧ e ≤ 16 ∧ okN l ∧ okN t ∧ okN s ∧ okN n)) ∨ (q = 0 ∧ ∃ e' l' t' s' n' : Nat, e = (e' : Int) ∧ l = (l' : Int) ∧ t = (t' : Int) ∧ s = (s' : Int) ∧ n = (n' : Int) ∧ e' ≤ 16 ∧ l' ≤ 4611686018427387903 ∧ t' ≤ 4611686018427387903 ∧ s' ≤ 4611686018427387903 ∧ n' ≤ 4611686018427387903 ∧ B = repB e' g [l', t', s', n'])) ∧
      (∀ w, Calls Try.prog 42 #[repV e g l t s n] w (RetBE B q w)) ∧ (∀ w, Calls Try.prog 43 #[repV e g l t s n] w (RetBE B q w)) := by
  by_cases he : e < 0 ∨ 16 < e
  · exact ⟨1, [], .inl ⟨rfl, rfl, fun h => by omega⟩, fun w => reply_e w e g l t s n he, fun w => docReply_e w e g l t s n he⟩
  have he0 : 0 ≤ e := by omega
  have he16 : e ≤ 16 := by omega
  obtain ⟨e', rfl⟩ := Int.eq_ofNat_of_zero_le he0
  have he' : e' ≤ 16 := by omega
  have hR : ∀ w, Calls Try.prog 42 #[repV (e' : Int) g l t s n] w (RetRep (e' : Int) g [l, t, s, n] w) := fun w => by
    cases g with
    | false => exact reply_false w e' l t s n he'
    | true => exact reply_true w e' l t s n he'
  by_cases hok : okN l ∧ okN t ∧ okN s ∧ okN n
  · obtain ⟨⟨l0, l1⟩, ⟨t0, t1⟩, ⟨s0, s1⟩, ⟨n0, n1⟩⟩ := hok
    obtain ⟨l', rfl⟩ := Int.eq_ofNat_of_zero_le l0
    obtain ⟨t', rfl⟩ := Int.eq_ofNat_of_zero_le t0
    obtain ⟨s', rfl⟩ := Int.eq_ofNat_of_zero_le s0
    obtain ⟨n', rfl⟩ := Int.eq_ofNat_of_zero_le n0
    refine ⟨0, repB e' g [l', t', s', n'], .inr ⟨rfl, e', l', t', s', n', rfl, rfl, rfl, rfl, rfl, he', by omega, by omega, by omega, by omega, rfl⟩, fun w => (hR w).mono ?_, fun w => ?_⟩
    · rintro x w' ⟨q, B, hI, hB⟩
      rcases hI with ⟨_, _, hno⟩ | ⟨rfl, _, _, ns, ⟨hln, hm, _⟩, rfl⟩
      · refine absurd ⟨he0, he16, fun y hy => ?_⟩ hno
        simp only [List.mem_cons, List.not_mem_nil, or_false] at hy
        rcases hy with rfl | rfl | rfl | rfl
        · exact ⟨l0, l1⟩
        · exact ⟨t0, t1⟩
        · exact ⟨s0, s1⟩
        · exact ⟨n0, n1⟩
      · have e1 : ns = [l', t', s', n'] := by
          match ns, hln, hm with
          | [a, b, c, d], _, hm =>
            simp only [List.map_cons, List.map_nil, List.take, List.cons.injEq, and_true] at hm
            obtain ⟨h1, h2, h3, h4⟩ := hm
            rw [show a = l' by omega, show b = t' by omega, show c = s' by omega, show d = n' by omega]
        rw [e1] at hB
        simpa using hB
    · cases g with
      | false => exact docReply_false w e' l' t' s' n' he' (by omega) (by omega) (by omega) (by omega)
      | true => exact docReply_true w e' l' t' s' n' he' (by omega) (by omega) (by omega) (by omega)
  · refine ⟨1, [], .inl ⟨rfl, rfl, fun h => hok h.2.2⟩, fun w => (hR w).mono ?_, fun w => docReply_n w _ g l t s n he0 he16 hok⟩
    rintro x w' ⟨q, B, hI, hB⟩
    rcases hI with ⟨rfl, rfl, _⟩ | ⟨_, _, _, ns, ⟨hl, hm, hb⟩, _⟩
    · exact hB
    · refine absurd ?_ hok
      match ns, hl, hm, hb with
      | [a, b, c, d], _, hm, hb =>
        simp only [List.map_cons, List.map_nil, List.take, List.cons.injEq, and_true] at hm
        obtain ⟨rfl, rfl, rfl, rfl⟩ := hm
        simp only [List.mem_cons, List.not_mem_nil, or_false, forall_eq_or_imp, forall_eq] at hb
        unfold okN
        omega

set_option maxHeartbeats 1000000 in
theorem readRep_err (w : World) (A : Option Addr) (n c : Nat) (q : Int) (hq : (q == 0) = false) (ys : List Nat) (hr : Rd w A (vals .u8 ys))
    (hC : ∀ W g, Rd W A (vals .u8 ys) → w.heap.size ≤ W.heap.size → w.heap.size ≤ g → g < W.heap.size → W.heap[g]? = some (.cells repZ 74 (0, 0)) → Calls Try.prog 76 #[.slice A n c, .func (.func 80) #[] #[.pointer (some ⟨g, 0, none⟩)]] W fun e w' => e = .returned (.int .i64 q) ∧ W.grownBy w' (some g)) :
    Calls Try.prog 44 #[.slice A n c] w (RetE (.tuple #[repZV, .int .i64 q]) w) := by
  have hmf : ∀ (fn : Fn) (first cap : Array Value) (w : World), (Instr.makeFunc fn first cap).run Try.prog w = .ok (.func fn first cap) w := fun _ _ _ _ => rfl
  have HC := Lib.hid hC; have Hr := Lib.hid hr; clear hC hr
  have hq' : (q != 0) = true := by simp [bne, hq]
  go_enter Try.func44, Try.ntmps44
  go_wp2_with fail
  refine (HC.out _ (w.heap.size + 1) ((Hr.out.alloc _).alloc _) (by simp; omega) (by omega) (by simp) (blk_newk _ _ (by simp))).mono ?_
  rintro e w2 ⟨rfl, hG⟩
  have K := Lib.hid (blk_grown (blk_past (blk_new w (.cells repZ 74 (0, 0))) _) hG (by omega))
  have hx := ext_grown (((Ext.refl w).alloc _).alloc _) hG (by omega)
  clear hG
  have k0 := blk_cell K.out 0; have k1 := blk_cell K.out 1; have k2 := blk_cell K.out 2; have k3 := blk_cell K.out 3; have k4 := blk_cell K.out 4; have k5 := blk_cell K.out 5
  have f0 := blk_frozen K.out 0; have f1 := blk_frozen K.out 1; have f2 := blk_frozen K.out 2; have f3 := blk_frozen K.out 3; have f4 := blk_frozen K.out 4; have f5 := blk_frozen K.out 5
  go_wp2_with fail
  refine bodyPost_ret (ret_rep2 rfl rfl (row6 K.out _ _ _ _ _ _)) rfl ?_
  exact ⟨rfl, ext_row6 hx (Nat.le_refl _) _ _ _ _ _ _⟩
theorem readRep_long (w : World) (A : Option Addr) (n c : Nat) (ys : List Nat) (hr : Rd w A (vals .u8 ys)) (hn : 4096 < n) :
    Calls Try.prog 44 #[.slice A n c] w (RetE (.tuple #[repZV, .int .i64 2]) w) := by
  refine readRep_err w A n c 2 rfl ys hr fun W g hR hs1 hs2 hs3 hc => ?_
  exact (read_long W A n c _ hn).mono fun e w' ⟨he, hx⟩ => ⟨he, grown_none hx _⟩
theorem readRep_wrong (w : World) (A : Option Addr) (n c : Nat) (ys : List Nat) (hl : ys.length = n) (hn : n ≤ 4096) (hnc : n ≤ c) (hr : Rd w A (vals .u8 ys))
    (H : ∀ W r S g, IsWs W r S ys → Calls Try.prog 80 #[.pointer (some ⟨r, 0, none⟩), .pointer (some ⟨g, 0, none⟩)] W (WrongR W r)) :
    Calls Try.prog 44 #[.slice A n c] w (RetE (.tuple #[repZV, .int .i64 3]) w) := by
  refine readRep_err w A n c 3 rfl ys hr fun W g hR hs1 hs2 hs3 hc => ?_
  exact read_wrongP W A n c g ys hl hn hnc hR hs3 w.heap.size hs1 (rd_blk hr) fun W' r hI hrr hgW hss => H W' r w.heap.size g hI
theorem readRep_more (w : World) (A : Option Addr) (n c e l t s m : Nat) (gb : Bool) (rest : List Nat) (hrest : rest ≠ []) (hrb : ∀ x ∈ rest, x < 256) (hl' : (repB e gb [l, t, s, m] ++ rest).length = n) (hn : n ≤ 4096) (hnc : n ≤ c) (he : e ≤ 16) (hl : l ≤ 4611686018427387903) (ht : t ≤ 4611686018427387903) (hs : s ≤ 4611686018427387903) (hm : m ≤ 4611686018427387903) (hr : Rd w A (vals .u8 (repB e gb [l, t, s, m] ++ rest))) :
    Calls Try.prog 44 #[.slice A n c] w (RetE (.tuple #[repZV, .int .i64 3]) w) := by
  refine readRep_err w A n c 3 rfl _ hr fun W g hR hs1 hs2 hs3 hc => ?_
  exact read_moreP W A n c g 74 (fun _ _ => #[.int .i64 (e : Int), .bool gb, .int .i64 (l : Int), .int .i64 (t : Int), .int .i64 (s : Int), .int .i64 (m : Int)]) _ [] rest hrest hl' hn hnc hR hs3 w.heap.size hs1 (rd_blk hr) fun W' r hI hrr hgW hss => byRep W' r w.heap.size g e l t s m gb (by omega) he hl ht hs hm rest hrb hI hs2 (by omega) (by omega) (hgW.trans hc)

/-- eight bytes that are a number -/
def Good8 (u : List Nat) : Prop := 8 ≤ u.length ∧ numB (u.take 8) ≤ 4611686018427387903
theorem good_split {u : List Nat} (hb : ∀ x ∈ u, x < 256) (h : Good8 u) : u = wordB (numB (u.take 8)) 8 ++ u.drop 8 := by
  have e := wordB_of (u.take 8) 8 _ (fun x hx => hb x (List.mem_of_mem_take hx)) (by rw [List.length_take]; have := h.1; omega) rfl
  rw [e, List.take_append_drop]
theorem bad_chunk {z : List Nat} {k : Nat} (hl : z.length = 32) (hk : k < 4) (h : ¬ Good8 (z.drop (8 * k))) : ∃ k : Nat, k < 4 ∧ 4611686018427387903 < numB (chunk z k) := by
  refine ⟨k, hk, Nat.lt_of_not_le fun hle => h ⟨by rw [List.length_drop]; omega, hle⟩⟩
/-- what ReadReply and DocReadReply answer -/
theorem readRep_cases (ys : List Nat) (n : Nat) (hl : ys.length = n) (hb : ∀ x ∈ ys, x < 256) :
    (∃ q : Int, (q == 0) = false ∧ (∀ w B d, Rd w B (vals .u8 ys) → n ≤ d → Calls Try.prog 44 #[.slice B n d] w (RetE (.tuple #[repZV, .int .i64 q]) w)) ∧ (∀ w B d, Rd w B (vals .u8 ys) → n ≤ d → Calls Try.prog 45 #[.slice B n d] w (RetE (.tuple #[repZV, .int .i64 q]) w))) ∨
    (∃ (e l t s m : Nat) (gb : Bool), e ≤ 16 ∧ l ≤ 4611686018427387903 ∧ t ≤ 4611686018427387903 ∧ s ≤ 4611686018427387903 ∧ m ≤ 4611686018427387903 ∧ ys = repB e gb [l, t, s, m] ∧ n = 34 ∧
      (∀ w B d, Rd w B (vals .u8 ys) → n ≤ d → Calls Try.prog 44 #[.slice B n d] w (RetE (.tuple #[repV (e : Int) gb (l : Int) (t : Int) (s : Int) (m : Int), .int .i64 0]) w)) ∧ (∀ w B d, Rd w B (vals .u8 ys) → n ≤ d → Calls Try.prog 45 #[.slice B n d] w (RetE (.tuple #[repV (e : Int) gb (l : Int) (t : Int) (s : Int) (m : Int), .int .i64 0]) w))) := by
  by_cases hn : 4096 < n
  · exact .inl ⟨2, rfl, fun w B d hr _ => readRep_long w B n d ys hr hn, fun w B d _ _ => docRR_long w B n d hn⟩
  have hn' : n ≤ 4096 := by omega
  by_cases h2 : n < 2
  · exact .inl ⟨3, rfl, fun w B d hr hd => readRep_wrong w B n d ys hl hn' hd hr fun W r S g hI => byRep_few W r S g ys (by omega) hI, fun w B d _ _ => docRR_len w B n d hn' (by omega)⟩
  match ys, hl, hb with
  | [], hl, _ => simp at hl; omega
  | [_], hl, _ => simp at hl; omega
  | e :: x1 :: z, hl, hb =>
    have hez : e < 256 := hb e (by simp)
    have hxz : x1 < 256 := hb x1 (by simp)
    have hzb : ∀ x ∈ z, x < 256 := fun x hx => hb x (by simp [hx])
    have hzl : z.length + 2 = n := by simpa using hl
    by_cases hbad : 16 < e ∨ 1 < x1
    · refine .inl ⟨3, rfl, fun w B d hr hd => readRep_wrong w B n d _ hl hn' hd hr fun W r S g hI => byRep_head W r S g e x1 z hez hxz hbad hI, fun w B d hr _ => ?_⟩
      by_cases h34 : n = 34
      · obtain ⟨b, off, rfl, hc⟩ := hr (by simp [vals])
        exact docRR_head w b off n d e x1 h34 (hc 0 _ rfl) (hc 1 _ rfl) hbad
      · exact docRR_len w B n d hn' h34
    have he : e ≤ 16 := by omega
    have hx : x1 ≤ 1 := by omega
    -- the document's word on numbers that are wrong
    have hdoc : ∀ k, k < 4 → ¬ Good8 (z.drop (8 * k)) → ∀ w B d, Rd w B (vals .u8 (e :: x1 :: z)) → n ≤ d → Calls Try.prog 45 #[.slice B n d] w (RetE (.tuple #[repZV, .int .i64 3]) w) := fun k hk hno w B d hr hd => by
      by_cases h34 : n = 34
      · exact (docRR_any w B n d e x1 z h34 hd (by omega) hzb he hx hr).mono fun x w' h => h.2 (bad_chunk (by omega) hk hno)
      · exact docRR_len w B n d hn' h34
    have hdb : ∀ k, ∀ x ∈ z.drop k, x < 256 := fun k x hx => hzb x (List.mem_of_mem_drop hx)
    by_cases g0 : Good8 z
    · have s0 := good_split hzb g0
      by_cases g1 : Good8 (z.drop 8)
      · have s1 := good_split (hdb 8) g1
        rw [List.drop_drop] at s1
        by_cases g2 : Good8 (z.drop 16)
        · have s2 := good_split (hdb 16) g2
          rw [List.drop_drop] at s2
          by_cases g3 : Good8 (z.drop 24)
          · have s3 := good_split (hdb 24) g3
            rw [List.drop_drop] at s3
            have hgb : x1 = oneIf ((x1 : Int) == 1) := by
              have : x1 = 0 ∨ x1 = 1 := by omega
              rcases this with rfl | rfl <;> rfl
            have eB : e :: x1 :: z = repB e ((x1 : Int) == 1) [numB (z.take 8), numB ((z.drop 8).take 8), numB ((z.drop 16).take 8), numB ((z.drop 24).take 8)] ++ z.drop 32 := by
              simp only [repB, words, List.flatMap_cons, List.flatMap_nil, List.append_nil, List.cons_append, List.append_assoc]
              rw [← hgb, ← s3, ← s2, ← s1, ← s0]
            by_cases hrest : z.drop 32 = []
            · right
              have h32 : z.length = 32 := by
                have h1 := congrArg List.length hrest
                rw [List.length_drop] at h1
                have h3 := g3.1
                rw [List.length_drop] at h3
                simp at h1
                omega
              rw [hrest, List.append_nil] at eB
              refine ⟨e, numB (z.take 8), numB ((z.drop 8).take 8), numB ((z.drop 16).take 8), numB ((z.drop 24).take 8), ((x1 : Int) == 1), he, g0.2, g1.2, g2.2, g3.2, eB, by omega, fun w B d hr hd => ?_, fun w B d hr hd => ?_⟩
              · rw [eB] at hr
                exact readRep_ok w B n d e _ _ _ _ _ (by omega) hd he g0.2 g1.2 g2.2 g3.2 hr
              · refine (docRR_any w B n d e x1 z (by omega) hd h32 hzb he hx hr).mono fun x w' h => h.1 fun k hk => ?_
                rcases (show k = 0 ∨ k = 1 ∨ k = 2 ∨ k = 3 by omega) with rfl | rfl | rfl | rfl
                · exact g0.2
                · exact g1.2
                · exact g2.2
                · exact g3.2
            · refine .inl ⟨3, rfl, fun w B d hr hd => ?_, fun w B d _ _ => docRR_len w B n d hn' ?_⟩
              · rw [eB] at hr hl
                exact readRep_more w B n d e _ _ _ _ _ (z.drop 32) hrest (hdb 32) hl hn' hd he g0.2 g1.2 g2.2 g3.2 hr
              · intro h34
                apply hrest
                exact List.drop_of_length_le (by omega)
          · refine .inl ⟨3, rfl, fun w B d hr hd => readRep_wrong w B n d _ hl hn' hd hr fun W r S g hI => byRep_num3 W r S g e x1 _ _ _ (z.drop 24) he hx g0.2 g1.2 g2.2 (hdb 24) g3 ?_, hdoc 3 (by omega) g3⟩
            rw [← s2, ← s1, ← s0]; exact hI
        · refine .inl ⟨3, rfl, fun w B d hr hd => readRep_wrong w B n d _ hl hn' hd hr fun W r S g hI => byRep_num2 W r S g e x1 _ _ (z.drop 16) he hx g0.2 g1.2 (hdb 16) g2 ?_, hdoc 2 (by omega) g2⟩
          rw [← s1, ← s0]; exact hI
      · refine .inl ⟨3, rfl, fun w B d hr hd => readRep_wrong w B n d _ hl hn' hd hr fun W r S g hI => byRep_num1 W r S g e x1 _ (z.drop 8) he hx g0.2 (hdb 8) g1 ?_, hdoc 1 (by omega) g1⟩
        rw [← s0]; exact hI
    · exact .inl ⟨3, rfl, fun w B d hr hd => readRep_wrong w B n d _ hl hn' hd hr fun W r S g hI => byRep_num0 W r S g e x1 z he hx hzb g0 hI, hdoc 0 (by omega) g0⟩
end

section
open Go.RowKit
open Go.ChangeShapes Go.WideShapes Go.ChangeAt Go.Joins Go.Deep

section
variable {H : Type} {enc : TypeId × Value → H} {P : Program}
theorem open_isi {r : Reach} {b0 : Nat} {W : World} {t e : TypeId} {f0 f1 f2 : Field} {k : IntKind} {v : Value} {d : DataW H} {p : List MemPlace} (hs : P.underlying t = some (.struct #[f0, f1, f2])) (hone : oneCellFields P #[f0, f1, f2] = true) (hC : P.cellsOf t = 3)
    (u0 : P.underlying f0.type = some (.int .i64)) (u1 : P.underlying f1.type = some (.slice e)) (u2 : P.underlying f2.type = some (.int .i64)) (ue : P.underlying e = some (.int k)) (ce : P.cellsOf e = 1) (hk : unsignedB k = true)
    (hv : Value.okWide P W r b0 t v) (h : DataW.Trod enc P W 0 (fun _ => true) true t v d p) :
    ∃ (a s : Int) (A : Option Addr) (len cap : Nat) (xs : List Nat) (d1 : DataW H), v = .agg #[.int .i64 a, .slice A len cap, .int .i64 s] ∧ xs.length = len ∧ (∀ x ∈ xs, x < 2 ^ k.bits) ∧ Rd W A (vals k xs) ∧ len ≤ cap ∧ cap ≤ maxLen ∧ SizeOf d1 len cap ∧
      d = .agg [.lit (.int .i64 a), d1, .lit (.int .i64 s)] ∧ (Lit.int .i64 a).wf = true ∧ (Lit.int .i64 s).wf = true := by
  obtain ⟨v0, v1, v2, y0, y1, y2, n, rfl, rfl, rfl, t0, t1, t2⟩ := open_agg3 hs hone hC hv h
  obtain ⟨a, ha, rfl, wa⟩ := DataW.trod_int u0 t0
  obtain ⟨s, hs', rfl, ws⟩ := DataW.trod_int u2 t2
  injection ha with ha _
  injection hs' with hs' _
  subst ha hs'
  obtain ⟨A, len, cap, rfl⟩ : ∃ A len cap, v1 = .slice A len cap := by
    rcases open_ints u1 ue ce t1 with ⟨hcs, _⟩ | ⟨x, l, c, zs, hcs, _⟩
    · injection hcs with h1 _; exact ⟨_, _, _, h1⟩
    · injection hcs with h1 _; exact ⟨_, _, _, h1⟩
  obtain ⟨xs, hl, hb, hr, hc, hm, hsz⟩ := open_nats u1 ue ce hk (d := y1.1) (p := y1.2) ⟨n, by simpa [Value.cells] using t1⟩
  exact ⟨a, s, A, len, cap, xs, y1.1, rfl, hl, hb, hr, hc, hm, hsz, rfl, wa, ws⟩
theorem sized_isi {ts : List TypeId} {ds : List (DataW H)} {t e : TypeId} {f0 f1 f2 : Field} {a b d1 : DataW H} {len cap : Nat} (h : (DataW.weightsEach P ts ds).all (· ≤ reachBytes) = true) {j : Nat} (ht : ts[j]? = some t) (hd : ds[j]? = some (.agg [a, d1, b])) (hs : P.underlying t = some (.struct #[f0, f1, f2]))
    (u1 : P.underlying f1.type = some (.slice e)) (hz : SizeOf d1 len cap) : cap * P.bytesOf e ≤ 140737488351232 := by
  rcases hz with ⟨_, _, rfl⟩ | ⟨es, sp, rfl, _, hc⟩
  · omega
  · have hmem : (es.length + sp.length) * P.bytesOf e ∈ DataW.weights P t (.agg [a, .slice es sp, b]) := by
      simp [DataW.weights, DataW.weightsEach, hs, u1]
    have := of_decide_eq_true (List.all_eq_true.1 h _ (DataW.weights_mem_each ht hd _ hmem))
    rw [hc] at this
    exact this
end
end

section
open Go.RowKit
open Go.ChangeShapes Go.WideShapes Go.ChangeAt Go.Joins Go.Deep

section
variable {H : Type} {enc : TypeId × Value → H} {P : Program}
theorem open_op {r : Reach} {b0 : Nat} {W : World} {t e : TypeId} {f0 f1 f2 g0 g1 g2 g3 g4 g5 : Field} {v : Value} {d : DataW H} {p : List MemPlace} (hs : P.underlying t = some (.struct #[f0, f1, f2])) (ho : f0.offset = 0 ∧ f1.offset = 1 ∧ f2.offset = 2) (hc : P.cellsOf f0.type = 1 ∧ P.cellsOf f1.type = 1 ∧ P.cellsOf f2.type = 6) (hC : P.cellsOf t = 8)
    (u0 : P.underlying f0.type = some (.int .u8)) (u1 : P.underlying f1.type = some (.slice e)) (ue : P.underlying e = some (.int .u8)) (ce : P.cellsOf e = 1)
    (u2 : P.underlying f2.type = some (.struct #[g0, g1, g2, g3, g4, g5])) (hone : oneCellFields P #[g0, g1, g2, g3, g4, g5] = true)
    (w0 : P.underlying g0.type = some (.int .i64)) (w1 : P.underlying g1.type = some .bool) (w2 : P.underlying g2.type = some (.int .i64)) (w3 : P.underlying g3.type = some (.int .i64)) (w4 : P.underlying g4.type = some (.int .i64)) (w5 : P.underlying g5.type = some (.int .i64))
    (hv : Value.okWide P W r b0 t v) (h : DataW.Trod enc P W 0 (fun _ => true) true t v d p) :
    ∃ (k : Nat) (A : Option Addr) (len cap : Nat) (xs : List Nat) (a b d1 : DataW H) (e : Int) (g : Bool) (l s n m : Int), v = .agg #[.int .u8 (k : Int), .slice A len cap, .int .i64 e, .bool g, .int .i64 l, .int .i64 s, .int .i64 n, .int .i64 m] ∧ k < 256 ∧ xs.length = len ∧ (∀ x ∈ xs, x < 256) ∧ Rd W A (vals .u8 xs) ∧ len ≤ cap ∧ cap ≤ maxLen ∧ SizeOf d1 len cap ∧ d = .agg [a, d1, b] := by
  obtain ⟨cs, rfl, hsz⟩ := okWide_struct hs hv
  obtain ⟨cl⟩ := cs
  match cl, hsz.trans hC with
  | [c0, c1, c2, c3, c4, c5, c6, c7], _ =>
    obtain ⟨fuel, hf⟩ := h
    obtain ⟨xs, n, _, hx, _, hlen, hg⟩ := DataW.trod_struct hs hf
    match xs, hlen with
    | [y0, y1, y2], _ =>
      have t0 : DataW.trod enc P W 0 (fun _ => true) true n f0.type [c0] = some y0 := by simpa [Value.cells, ho.1, hc.1] using hg 0 f0 rfl
      have t1 : DataW.trod enc P W 0 (fun _ => true) true n f1.type [c1] = some y1 := by simpa [Value.cells, ho.2.1, hc.2.1] using hg 1 f1 rfl
      have t2 : DataW.trod enc P W 0 (fun _ => true) true n f2.type [c2, c3, c4, c5, c6, c7] = some y2 := by simpa [Value.cells, ho.2.2, hc.2.2] using hg 2 f2 rfl
      obtain ⟨zs, n2, _, _, _, hlen2, hg2⟩ := DataW.trod_struct u2 t2
      match zs, hlen2 with
      | [z0, z1, z2, z3, z4, z5], _ =>
        obtain ⟨o0, k0⟩ := hone_of hone 0 g0 rfl
        obtain ⟨o1, k1⟩ := hone_of hone 1 g1 rfl
        obtain ⟨o2, k2⟩ := hone_of hone 2 g2 rfl
        obtain ⟨o3, k3⟩ := hone_of hone 3 g3 rfl
        obtain ⟨o4, k4⟩ := hone_of hone 4 g4 rfl
        obtain ⟨o5, k5⟩ := hone_of hone 5 g5 rfl
        have s0 : DataW.trod enc P W 0 (fun _ => true) true n2 g0.type [c2] = some z0 := by simpa [Value.cells, o0, k0] using hg2 0 g0 rfl
        have s1 : DataW.trod enc P W 0 (fun _ => true) true n2 g1.type [c3] = some z1 := by simpa [Value.cells, o1, k1] using hg2 1 g1 rfl
        have s2 : DataW.trod enc P W 0 (fun _ => true) true n2 g2.type [c4] = some z2 := by simpa [Value.cells, o2, k2] using hg2 2 g2 rfl
        have s3 : DataW.trod enc P W 0 (fun _ => true) true n2 g3.type [c5] = some z3 := by simpa [Value.cells, o3, k3] using hg2 3 g3 rfl
        have s4 : DataW.trod enc P W 0 (fun _ => true) true n2 g4.type [c6] = some z4 := by simpa [Value.cells, o4, k4] using hg2 4 g4 rfl
        have s5 : DataW.trod enc P W 0 (fun _ => true) true n2 g5.type [c7] = some z5 := by simpa [Value.cells, o5, k5] using hg2 5 g5 rfl
        obtain ⟨_, h0, _, q0⟩ := DataW.trod_int u0 t0
        obtain ⟨_, h2, _, _⟩ := DataW.trod_int w0 s0
        obtain ⟨_, h3, _⟩ := DataW.trod_bool w1 s1
        obtain ⟨_, h4, _, _⟩ := DataW.trod_int w2 s2
        obtain ⟨_, h5, _, _⟩ := DataW.trod_int w3 s3
        obtain ⟨_, h6, _, _⟩ := DataW.trod_int w4 s4
        obtain ⟨_, h7, _, _⟩ := DataW.trod_int w5 s5
        injection h0 with h0 _; injection h2 with h2 _; injection h3 with h3 _; injection h4 with h4 _; injection h5 with h5 _; injection h6 with h6 _; injection h7 with h7 _
        subst h0 h2 h3 h4 h5 h6 h7
        obtain ⟨O, rfl, hO⟩ := nat_of (k := .u8) rfl q0
        obtain ⟨A, len, cap, rfl⟩ : ∃ A len cap, c1 = .slice A len cap := by
          rcases open_ints u1 ue ce t1 with ⟨hcs, _⟩ | ⟨x, l, c, zs, hcs, _⟩
          · injection hcs with h1 _; exact ⟨_, _, _, h1⟩
          · injection hcs with h1 _; exact ⟨_, _, _, h1⟩
        obtain ⟨xs, hl, hb, hr, hcc, hm, hsz⟩ := open_nats u1 ue ce rfl (d := y1.1) (p := y1.2) ⟨n, by simpa [Value.cells] using t1⟩
        exact ⟨O, A, len, cap, xs, y0.1, y2.1, y1.1, _, _, _, _, _, _, rfl, by simpa [IntKind.bits] using hO, hl, by simpa [IntKind.bits] using hb, hr, hcc, hm, hsz, by injection hx⟩
end
end
end Go.Proofs.Ythkdjjfnmlemdaa
