/- the document's DocReadReply. -/
import Derived.Test.YtkebkhgjoiiapaaReadR
import Derived.BigRegion
namespace Go.Proofs.Ytkebkhgjoiiapaa
open Go.RowKit

abbrev repZV : Value := repV 0 false 0 0 0 0
/-- the k-th number's bytes -/
def chunk (z : List Nat) (k : Nat) : List Nat := (z.drop (8 * k)).take 8
theorem docRR_long (w : World) (A : Option Addr) (n c : Nat) (hn : 4096 < n) : Calls Try.prog 49 #[.slice A n c] w (RetE (.tuple #[repZV, .int .i64 2]) w) := by
  go_enter Try.func49, Try.ntmps49
  go_wp2_with fail
  refine bodyPost_ret (ret_rep2 rfl rfl (heap_alloc_new w _)) rfl ?_
  exact ⟨rfl, (Ext.refl w).alloc _⟩
theorem docRR_len (w : World) (A : Option Addr) (n c : Nat) (hn : n ≤ 4096) (h34 : n ≠ 34) : Calls Try.prog 49 #[.slice A n c] w (RetE (.tuple #[repZV, .int .i64 3]) w) := by
  have hb : ((n : Int) != 34) = true := by simp; omega
  go_enter Try.func49, Try.ntmps49
  go_wp2_with fail
  refine bodyPost_ret (ret_rep2 rfl rfl (heap_alloc_new w _)) rfl ?_
  exact ⟨rfl, (Ext.refl w).alloc _⟩
theorem docRR_head (w : World) (b off n c e x1 : Nat) (hn : n = 34) (h0 : w.cell? ⟨b, off, none⟩ = some (.int .u8 (e : Int))) (h1 : w.cell? ⟨b, off + 1, none⟩ = some (.int .u8 (x1 : Int))) (hbad : 16 < e ∨ 1 < x1) :
    Calls Try.prog 49 #[.slice (some ⟨b, off, none⟩) n c] w (RetE (.tuple #[repZV, .int .i64 3]) w) := by
  have hb : ((n : Int) != 34) = false := by simp; omega
  have hn1 : 2 ≤ n := by omega
  have hn2 : n ≤ 4096 := by omega
  have k0 := cell_past h0 (.cells repZ 82 (0, 0)); have k1 := cell_past h1 (.cells repZ 82 (0, 0))
  clear hn h0 h1
  by_cases h16 : 16 < e
  · have hd : decide ((e : Int) > 16) = true := by simp; omega
    clear hbad
    go_enter Try.func49, Try.ntmps49
    go_wp2_with fail
    refine bodyPost_ret (ret_rep2 rfl rfl (heap_alloc_new w _)) rfl ?_
    exact ⟨rfl, (Ext.refl w).alloc _⟩
  · have hd : decide ((e : Int) > 16) = false := by simp; omega
    have hd2 : decide ((x1 : Int) > 1) = true := by simp; omega
    clear hbad h16
    go_enter Try.func49, Try.ntmps49
    go_wp2_with fail
    refine bodyPost_ret (ret_rep2 rfl rfl (heap_alloc_new w _)) rfl ?_
    exact ⟨rfl, (Ext.refl w).alloc _⟩
/-- a field, once it is read -/
def fld (z : List Nat) (k j : Nat) : Value := .int .i64 (if j < k then (numB (chunk z j) : Int) else 0)
def RetRR (e : Nat) (gb : Bool) (z : List Nat) (w : World) (x : Ending) (w' : World) : Prop :=
  ((∀ k : Nat, k < 4 → numB (chunk z k) ≤ 4611686018427387903) → RetE (.tuple #[repV (e : Int) gb (numB (chunk z 0) : Int) (numB (chunk z 1) : Int) (numB (chunk z 2) : Int) (numB (chunk z 3) : Int), .int .i64 0]) w x w') ∧
  ((∃ k : Nat, k < 4 ∧ 4611686018427387903 < numB (chunk z k)) → RetE (.tuple #[repZV, .int .i64 3]) w x w')
set_option maxHeartbeats 4000000 in
set_option maxRecDepth 100000 in
theorem docRR_any (w : World) (A : Option Addr) (n c e x1 : Nat) (z : List Nat) (hn : n = 34) (hnc : n ≤ c) (hl : z.length = 32) (hb : ∀ x ∈ z, x < 256) (he : e ≤ 16) (hx : x1 ≤ 1) (hr : Rd w A (vals .u8 (e :: x1 :: z))) :
    Calls Try.prog 49 #[.slice A n c] w (RetRR e ((x1 : Int) == 1) z w) := by
  have hb34 : ((n : Int) != 34) = false := by simp; omega
  have hn1 : 2 ≤ n := by omega
  have hn2 : n ≤ 4096 := by omega
  have Hr := Lib.hid hr; have Hl := Lib.hid hl; have Hb := Lib.hid hb
  obtain ⟨b, off, hA, hcc⟩ := hr (by simp [vals])
  have h0 : w.cell? ⟨b, off, none⟩ = some (.int .u8 (e : Int)) := hcc 0 _ rfl
  have h1 : w.cell? ⟨b, off + 1, none⟩ = some (.int .u8 (x1 : Int)) := hcc 1 _ rfl
  subst hA
  have k0 := cell_past h0 (.cells repZ 82 (0, 0)); have k1 := cell_past h1 (.cells repZ 82 (0, 0))
  have hd : decide ((e : Int) > 16) = false := by simp; omega
  have hd2 : decide ((x1 : Int) > 1) = false := by simp; omega
  have hw : IntKind.i64.wrap (e : Int) = (e : Int) := by rw [IntKind.wrap_i64]; omega
  obtain ⟨gb, hgb⟩ : ∃ gb : Bool, ((x1 : Int) == 1) = gb := ⟨_, rfl⟩
  rw [hgb]
  have hsl : ∀ k : Nat, k < 4 → ∃ A' : Option Addr, ∃ d, (∀ u : World, (Instr.slice 22 (.slice (some ⟨b, off, none⟩) n c) (some (.int .i64 (2 + 8 * (k : Int)))) (some (.int .i64 (10 + 8 * (k : Int)))) none).run Try.prog u = .ok (.slice A' 8 d) u) ∧ ∀ W, Ext w W → Rd W A' (vals .u8 (chunk z k)) := fun k hk => by
    obtain ⟨A', h1, h2⟩ := slice_mid_any2 Try.underlying22 size_u8 (A := some ⟨b, off, none⟩) (n := n) (c := c) (m := 8) (d := c - (2 + 8 * k)) (2 + 8 * k) (10 + 8 * k) (ki := 2 + 8 * (k : Int)) (hi := 10 + 8 * (k : Int)) (by omega) (by omega) (by omega) hnc (by omega) (by omega)
    refine ⟨A', _, h1, fun W hx => ?_⟩
    have h3 := h2 W (vals .u8 (e :: x1 :: z)) (by rw [vals_len]; simp [Hl.out]; omega) (Hr.out.ext hx)
    have e1 : (((vals .u8 (e :: x1 :: z)).drop (2 + 8 * k)).take 8) = vals .u8 (chunk z k) := by
      rw [Nat.add_comm 2]
      simp [vals, chunk, List.map_take, List.map_drop]
    rw [e1] at h3
    exact h3
  have Hsl := Lib.hid hsl
  have Hch : Hid (∀ k : Nat, k < 4 → (chunk z k).length = 8 ∧ ∀ x ∈ chunk z k, x < 256) := Lib.hid fun k hk => ⟨by unfold chunk; rw [List.length_take, List.length_drop, Hl.out]; omega, fun x hx => Hb.out x (List.mem_of_mem_drop (List.mem_of_mem_take hx))⟩
  clear hn hr hl hb h0 h1 hcc hsl
  go_enter Try.func49, Try.ntmps49
  go_upto_region 5 with fail
  have d0 : ((w.alloc (.cells repZ 82)).alloc (.cells repZ 82)).drew.cell? ⟨b, off, none⟩ = some (.int .u8 (e : Int)) := cell_past k0 _
  have d1 : ((w.alloc (.cells repZ 82)).alloc (.cells repZ 82)).drew.cell? ⟨b, off + 1, none⟩ = some (.int .u8 (x1 : Int)) := cell_past k1 _
  go_cut [4] (fun v wd => v = .pointer (some ⟨w.heap.size + 1, 0, none⟩) ∧ wd.heap[w.heap.size + 1]? = some (.cells #[.int .i64 (e : Int), .bool gb, .int .i64 0, .int .i64 0, .int .i64 0, .int .i64 0] 82 (0, 0)) ∧ wd.heap[w.heap.size]? = some (.cells repZ 82 (0, 0)) ∧ Ext w wd)
  case first =>
    go_region
    all_goals
      go_wp2_with fail
      go_meet
      exact ⟨rfl, blk_newk (w.alloc (.cells repZ 82)) (.cells #[.int .i64 (e : Int), .bool gb, .int .i64 0, .int .i64 0, .int .i64 0, .int .i64 0] 82 (0, 0)) (by simp), blk_past (blk_new w (.cells repZ 82 (0, 0))) _, (((Ext.refl w).alloc _).alloc _).drew⟩
  case rest =>
    obtain ⟨rfl, hK, hZ, hxc⟩ := hcut
    have HK := Lib.hid hK; have HZ := Lib.hid hZ
    clear hK hZ d0 d1 k0 k1
    go_wp2_with fail
    go_loopw [36] (fun i wr => ∃ k : Nat, k ≤ 4 ∧ i = .int .i64 (k : Int) ∧ (∀ j : Nat, j < k → numB (chunk z j) ≤ 4611686018427387903) ∧ wr.heap[w.heap.size + 1]? = some (.cells #[.int .i64 (e : Int), .bool gb, fld z k 0, fld z k 1, fld z k 2, fld z k 3] 82 (0, 0)) ∧ wr.heap[w.heap.size]? = some (.cells repZ 82 (0, 0)) ∧ Ext w wr) (fun i _ => 4 - (intOf i).toNat)
    case atStart => exact ⟨0, Nat.zero_le _, rfl, fun j hj => by omega, HK.out, HZ.out, hxc⟩
    case round =>
      obtain ⟨k, hk, rfl, hprev, hK, hZ, hxr⟩ := hrel
      have HPrev := Lib.hid hprev; have HK := Lib.hid hK; have HZ := Lib.hid hZ
      clear hprev hK hZ
      rcases (show k = 0 ∨ k = 1 ∨ k = 2 ∨ k = 3 ∨ k = 4 by omega) with rfl | rfl | rfl | rfl | rfl
      · have hK' : wr.heap[w.heap.size + 1]? = some (.cells #[.int .i64 (e : Int), .bool gb, .int .i64 0, .int .i64 0, .int .i64 0, .int .i64 0] 82 (0, 0)) := HK.out
        obtain ⟨A', d, hs, hrd⟩ := Hsl.out 0 (by omega)
        have hs' : ∀ u : World, (Instr.slice 22 (.slice (some ⟨b, off, none⟩) n c) (some (.int .i64 2)) (some (.int .i64 10)) none).run Try.prog u = .ok (.slice A' 8 d) u := hs
        have hcl := Hch.out 0 (by omega)
        have C := Lib.hid (docNumber_any wr A' 8 d (chunk z 0) hcl.1 (by omega) hcl.2 (hrd wr hxr))
        clear hs hrd hcl
        have c2 := blk_cell hK' 2; have f2 := blk_frozen hK' 2
        go_wp2_with fail
        refine C.out.mono ?_
        rintro x w1 ⟨rfl, rfl⟩
        obtain ⟨v, hv⟩ : ∃ v, numB (chunk z 0) = v := ⟨_, rfl⟩
        rw [hv]
        have Hv := Lib.hid hv; clear hv C
        by_cases hbig : 4611686018427387903 < v
        · have hd3 : decide ((v : Int) > 4611686018427387903) = true := by simp; omega
          have Hbig := Lib.hid hbig; clear hbig
          have z0 := blk_cell HZ.out 0; have z1 := blk_cell HZ.out 1; have z2 := blk_cell HZ.out 2; have z3 := blk_cell HZ.out 3; have z4 := blk_cell HZ.out 4; have z5 := blk_cell HZ.out 5
          have g0 := blk_frozen HZ.out 0; have g1 := blk_frozen HZ.out 1; have g2 := blk_frozen HZ.out 2; have g3 := blk_frozen HZ.out 3; have g4 := blk_frozen HZ.out 4; have g5 := blk_frozen HZ.out 5
          go_wp2_with fail
          refine bodyPost_ret (ret_rep2 rfl rfl (row6 HZ.out _ _ _ _ _ _)) rfl ?_
          refine ⟨fun h => ?_, fun _ => ⟨rfl, ext_row6 hxr (Nat.le_refl _) _ _ _ _ _ _⟩⟩
          have h9 := h 0 (by omega)
          rw [Hv.out] at h9
          exact absurd Hbig.out (by omega)
        · have hd3 : decide ((v : Int) > 4611686018427387903) = false := by simp; omega
          have hwv : IntKind.i64.wrap (v : Int) = (v : Int) := by rw [IntKind.wrap_i64]; omega
          have hvb : v ≤ 4611686018427387903 := by omega
          have Hvb := Lib.hid hvb; clear hbig hvb
          go_wp2_with fail
          go_roundw
          case rel =>
            refine ⟨1, by omega, by go_num, fun j hj => ?_, ?_, blk_grown HZ.out (grown_set wr (w.heap.size + 1) 2 _) (by omega), ext_grown hxr (grown_set wr (w.heap.size + 1) 2 _) (by omega)⟩
            · by_cases e1 : j = 0
              · rw [e1, Hv.out]; exact Hvb.out
              · exact HPrev.out j (by omega)
            · have h7 := blk_set hK' 2 (.int .i64 (v : Int))
              rw [← Hv.out] at h7 ⊢
              exact h7
          case measure => simp [intOf]
      · have hK' : wr.heap[w.heap.size + 1]? = some (.cells #[.int .i64 (e : Int), .bool gb, .int .i64 (numB (chunk z 0) : Int), .int .i64 0, .int .i64 0, .int .i64 0] 82 (0, 0)) := HK.out
        obtain ⟨A', d, hs, hrd⟩ := Hsl.out 1 (by omega)
        have hs' : ∀ u : World, (Instr.slice 22 (.slice (some ⟨b, off, none⟩) n c) (some (.int .i64 10)) (some (.int .i64 18)) none).run Try.prog u = .ok (.slice A' 8 d) u := hs
        have hcl := Hch.out 1 (by omega)
        have C := Lib.hid (docNumber_any wr A' 8 d (chunk z 1) hcl.1 (by omega) hcl.2 (hrd wr hxr))
        clear hs hrd hcl
        have c3 := blk_cell hK' 3; have f3 := blk_frozen hK' 3
        go_wp2_with fail
        refine C.out.mono ?_
        rintro x w1 ⟨rfl, rfl⟩
        obtain ⟨v, hv⟩ : ∃ v, numB (chunk z 1) = v := ⟨_, rfl⟩
        rw [hv]
        have Hv := Lib.hid hv; clear hv C
        by_cases hbig : 4611686018427387903 < v
        · have hd3 : decide ((v : Int) > 4611686018427387903) = true := by simp; omega
          have Hbig := Lib.hid hbig; clear hbig
          have z0 := blk_cell HZ.out 0; have z1 := blk_cell HZ.out 1; have z2 := blk_cell HZ.out 2; have z3 := blk_cell HZ.out 3; have z4 := blk_cell HZ.out 4; have z5 := blk_cell HZ.out 5
          have g0 := blk_frozen HZ.out 0; have g1 := blk_frozen HZ.out 1; have g2 := blk_frozen HZ.out 2; have g3 := blk_frozen HZ.out 3; have g4 := blk_frozen HZ.out 4; have g5 := blk_frozen HZ.out 5
          go_wp2_with fail
          refine bodyPost_ret (ret_rep2 rfl rfl (row6 HZ.out _ _ _ _ _ _)) rfl ?_
          refine ⟨fun h => ?_, fun _ => ⟨rfl, ext_row6 hxr (Nat.le_refl _) _ _ _ _ _ _⟩⟩
          have h9 := h 1 (by omega)
          rw [Hv.out] at h9
          exact absurd Hbig.out (by omega)
        · have hd3 : decide ((v : Int) > 4611686018427387903) = false := by simp; omega
          have hwv : IntKind.i64.wrap (v : Int) = (v : Int) := by rw [IntKind.wrap_i64]; omega
          have hvb : v ≤ 4611686018427387903 := by omega
          have Hvb := Lib.hid hvb; clear hbig hvb
          go_wp2_with fail
          go_roundw
          case rel =>
            refine ⟨2, by omega, by go_num, fun j hj => ?_, ?_, blk_grown HZ.out (grown_set wr (w.heap.size + 1) 3 _) (by omega), ext_grown hxr (grown_set wr (w.heap.size + 1) 3 _) (by omega)⟩
            · by_cases e1 : j = 1
              · rw [e1, Hv.out]; exact Hvb.out
              · exact HPrev.out j (by omega)
            · have h7 := blk_set hK' 3 (.int .i64 (v : Int))
              rw [← Hv.out] at h7 ⊢
              exact h7
          case measure => simp [intOf]
      · have hK' : wr.heap[w.heap.size + 1]? = some (.cells #[.int .i64 (e : Int), .bool gb, .int .i64 (numB (chunk z 0) : Int), .int .i64 (numB (chunk z 1) : Int), .int .i64 0, .int .i64 0] 82 (0, 0)) := HK.out
        obtain ⟨A', d, hs, hrd⟩ := Hsl.out 2 (by omega)
        have hs' : ∀ u : World, (Instr.slice 22 (.slice (some ⟨b, off, none⟩) n c) (some (.int .i64 18)) (some (.int .i64 26)) none).run Try.prog u = .ok (.slice A' 8 d) u := hs
        have hcl := Hch.out 2 (by omega)
        have C := Lib.hid (docNumber_any wr A' 8 d (chunk z 2) hcl.1 (by omega) hcl.2 (hrd wr hxr))
        clear hs hrd hcl
        have c4 := blk_cell hK' 4; have f4 := blk_frozen hK' 4
        go_wp2_with fail
        refine C.out.mono ?_
        rintro x w1 ⟨rfl, rfl⟩
        obtain ⟨v, hv⟩ : ∃ v, numB (chunk z 2) = v := ⟨_, rfl⟩
        rw [hv]
        have Hv := Lib.hid hv; clear hv C
        by_cases hbig : 4611686018427387903 < v
        · have hd3 : decide ((v : Int) > 4611686018427387903) = true := by simp; omega
          have Hbig := Lib.hid hbig; clear hbig
          have z0 := blk_cell HZ.out 0; have z1 := blk_cell HZ.out 1; have z2 := blk_cell HZ.out 2; have z3 := blk_cell HZ.out 3; have z4 := blk_cell HZ.out 4; have z5 := blk_cell HZ.out 5
          have g0 := blk_frozen HZ.out 0; have g1 := blk_frozen HZ.out 1; have g2 := blk_frozen HZ.out 2; have g3 := blk_frozen HZ.out 3; have g4 := blk_frozen HZ.out 4; have g5 := blk_frozen HZ.out 5
          go_wp2_with fail
          refine bodyPost_ret (ret_rep2 rfl rfl (row6 HZ.out _ _ _ _ _ _)) rfl ?_
          refine ⟨fun h => ?_, fun _ => ⟨rfl, ext_row6 hxr (Nat.le_refl _) _ _ _ _ _ _⟩⟩
          have h9 := h 2 (by omega)
          rw [Hv.out] at h9
          exact absurd Hbig.out (by omega)
        · have hd3 : decide ((v : Int) > 4611686018427387903) = false := by simp; omega
          have hwv : IntKind.i64.wrap (v : Int) = (v : Int) := by rw [IntKind.wrap_i64]; omega
          have hvb : v ≤ 4611686018427387903 := by omega
          have Hvb := Lib.hid hvb; clear hbig hvb
          go_wp2_with fail
          go_roundw
          case rel =>
            refine ⟨3, by omega, by go_num, fun j hj => ?_, ?_, blk_grown HZ.out (grown_set wr (w.heap.size + 1) 4 _) (by omega), ext_grown hxr (grown_set wr (w.heap.size + 1) 4 _) (by omega)⟩
            · by_cases e1 : j = 2
              · rw [e1, Hv.out]; exact Hvb.out
              · exact HPrev.out j (by omega)
            · have h7 := blk_set hK' 4 (.int .i64 (v : Int))
              rw [← Hv.out] at h7 ⊢
              exact h7
          case measure => simp [intOf]
      · have hK' : wr.heap[w.heap.size + 1]? = some (.cells #[.int .i64 (e : Int), .bool gb, .int .i64 (numB (chunk z 0) : Int), .int .i64 (numB (chunk z 1) : Int), .int .i64 (numB (chunk z 2) : Int), .int .i64 0] 82 (0, 0)) := HK.out
        obtain ⟨A', d, hs, hrd⟩ := Hsl.out 3 (by omega)
        have hs' : ∀ u : World, (Instr.slice 22 (.slice (some ⟨b, off, none⟩) n c) (some (.int .i64 26)) (some (.int .i64 34)) none).run Try.prog u = .ok (.slice A' 8 d) u := hs
        have hcl := Hch.out 3 (by omega)
        have C := Lib.hid (docNumber_any wr A' 8 d (chunk z 3) hcl.1 (by omega) hcl.2 (hrd wr hxr))
        clear hs hrd hcl
        have c5 := blk_cell hK' 5; have f5 := blk_frozen hK' 5
        go_wp2_with fail
        refine C.out.mono ?_
        rintro x w1 ⟨rfl, rfl⟩
        obtain ⟨v, hv⟩ : ∃ v, numB (chunk z 3) = v := ⟨_, rfl⟩
        rw [hv]
        have Hv := Lib.hid hv; clear hv C
        by_cases hbig : 4611686018427387903 < v
        · have hd3 : decide ((v : Int) > 4611686018427387903) = true := by simp; omega
          have Hbig := Lib.hid hbig; clear hbig
          have z0 := blk_cell HZ.out 0; have z1 := blk_cell HZ.out 1; have z2 := blk_cell HZ.out 2; have z3 := blk_cell HZ.out 3; have z4 := blk_cell HZ.out 4; have z5 := blk_cell HZ.out 5
          have g0 := blk_frozen HZ.out 0; have g1 := blk_frozen HZ.out 1; have g2 := blk_frozen HZ.out 2; have g3 := blk_frozen HZ.out 3; have g4 := blk_frozen HZ.out 4; have g5 := blk_frozen HZ.out 5
          go_wp2_with fail
          refine bodyPost_ret (ret_rep2 rfl rfl (row6 HZ.out _ _ _ _ _ _)) rfl ?_
          refine ⟨fun h => ?_, fun _ => ⟨rfl, ext_row6 hxr (Nat.le_refl _) _ _ _ _ _ _⟩⟩
          have h9 := h 3 (by omega)
          rw [Hv.out] at h9
          exact absurd Hbig.out (by omega)
        · have hd3 : decide ((v : Int) > 4611686018427387903) = false := by simp; omega
          have hwv : IntKind.i64.wrap (v : Int) = (v : Int) := by rw [IntKind.wrap_i64]; omega
          have hvb : v ≤ 4611686018427387903 := by omega
          have Hvb := Lib.hid hvb; clear hbig hvb
          go_wp2_with fail
          go_roundw
          case rel =>
            refine ⟨4, by omega, by go_num, fun j hj => ?_, ?_, blk_grown HZ.out (grown_set wr (w.heap.size + 1) 5 _) (by omega), ext_grown hxr (grown_set wr (w.heap.size + 1) 5 _) (by omega)⟩
            · by_cases e1 : j = 3
              · rw [e1, Hv.out]; exact Hvb.out
              · exact HPrev.out j (by omega)
            · have h7 := blk_set hK' 5 (.int .i64 (v : Int))
              rw [← Hv.out] at h7 ⊢
              exact h7
          case measure => simp [intOf]
      · have z0 := blk_cell HZ.out 0; have z1 := blk_cell HZ.out 1; have z2 := blk_cell HZ.out 2; have z3 := blk_cell HZ.out 3; have z4 := blk_cell HZ.out 4; have z5 := blk_cell HZ.out 5
        have g0 := blk_frozen HZ.out 0; have g1 := blk_frozen HZ.out 1; have g2 := blk_frozen HZ.out 2; have g3 := blk_frozen HZ.out 3; have g4 := blk_frozen HZ.out 4; have g5 := blk_frozen HZ.out 5
        have hK' : wr.heap[w.heap.size + 1]? = some (.cells #[.int .i64 (e : Int), .bool gb, .int .i64 (numB (chunk z 0) : Int), .int .i64 (numB (chunk z 1) : Int), .int .i64 (numB (chunk z 2) : Int), .int .i64 (numB (chunk z 3) : Int)] 82 (0, 0)) := HK.out
        have y0 := blk_cell hK' 0; have y1 := blk_cell hK' 1; have y2 := blk_cell hK' 2; have y3 := blk_cell hK' 3; have y4 := blk_cell hK' 4; have y5 := blk_cell hK' 5
        go_wp2_with fail
        refine bodyPost_ret (ret_rep2 rfl rfl (row6 HZ.out _ _ _ _ _ _)) rfl ?_
        refine ⟨fun _ => ⟨rfl, ext_row6 hxr (Nat.le_refl _) _ _ _ _ _ _⟩, fun ⟨j, hj, hbig⟩ => ?_⟩
        have := HPrev.out j hj
        omega
end Go.Proofs.Ytkebkhgjoiiapaa
