/- wire.reader's call: a call with a key. -/
import Derived.Test.YthkdjjfnmlemdaaCall
import Derived.Test.YthkdjjfnmlemdaaFrC
namespace Go.Proofs.Ythkdjjfnmlemdaa
open Go.RowKit

set_option maxHeartbeats 4000000 in
set_option maxRecDepth 100000 in
theorem call2_ok (w : World) (r S p : Nat) (xs rest : List Nat) (hSw : S ≤ w.heap.size) (hb : ∀ x ∈ xs, x < 256) (hp : p < 32) (hx : xs.length ≤ 255) (h : IsWs w r S (2 :: p :: xs.length :: (xs ++ rest))) :
    Calls Try.prog 78 #[.pointer (some ⟨r, 0, none⟩)] w (CallR 2 p xs 0 rest w r S) := by
  have hr := h.lt
  have H := Lib.hid (fun o : Obj => h.ext ((Ext.refl w).alloc o)); clear h
  have Hb := Lib.hid hb; clear hb
  obtain ⟨k, Hk⟩ : ∃ k, Hid (xs.length = k) := ⟨_, rfl⟩
  rw [Hk.out] at H hx
  go_enter Try.func78, Try.ntmps78
  go_wp2_with fail
  refine (wtake_ok _ r S 1 _ (H.out _) (by simp)).mono ?_
  rintro e w1 ⟨A, c, rfl, hc, hR, hS, hg, hz, hbl⟩
  obtain ⟨b, off, rfl, hc0⟩ := head_cell hR
  have K2 := Lib.hid (blk_grown (blk_new w _) hg (by omega))
  have HS := Lib.hid (show IsWs w1 r S (p :: k :: (xs ++ rest)) from hS); have HG := Lib.hid hg
  rw [World.size_alloc] at hz
  clear hR hS hg hbl
  go_upto_block 0 with fail
  go_cut [6] (fun _ wd => CallMid 2 p xs 0 rest w r S w1.heap.size wd)
  case first =>
    go_wp2_with fail
    refine (wtake_ok _ r S 2 _ (HS.out.ext ((Ext.refl w1).alloc _)) (by simp)).mono ?_
    rintro e w2 ⟨A2, c2, rfl, hc2, hR2, hS2, hg2, hz2, hbl2⟩
    rw [World.size_alloc] at hz2
    have HS2 := Lib.hid (show IsWs w2 r S (xs ++ rest) from hS2)
    obtain ⟨b2, off2, rfl, hcc⟩ := hR2 (by simp [vals])
    have h0 : w2.cell? ⟨b2, off2, none⟩ = some (.int .u8 (p : Int)) := hcc 0 _ rfl
    have h1 : w2.cell? ⟨b2, off2 + 1, none⟩ = some (.int .u8 (k : Int)) := hcc 1 _ rfl
    obtain ⟨hbr, hbS⟩ := hbl2 (by simp) _ rfl
    have hbr : b2 ≠ r := hbr
    have hbS : b2 < S := hbS
    have K3 := Lib.hid (blk_grown (blk_new w1 _) hg2 (by omega))
    have K2' := Lib.hid (blk_grown (blk_past K2.out _) hg2 (by omega))
    have HGA := Lib.hid (World.grown_trans (grown_alloc (World.grown_trans (grown_none ((Ext.refl w).alloc (.cells #[.int .u8 0, .int .i64 0, .slice none 0 0, .int .i64 0] 63)) (some r)) HG.out) _) hg2)
    clear hcc hR2 hS2 hg2 HS K2 HG hbl2 hc0
    have hp32 : decide ((p : Int) < 32) = true := by simp; omega
    go_wp2_with fail
    refine (must_ok _ _).mono ?_
    rintro e w' ⟨rfl, rfl⟩
    have w1p : IntKind.i64.wrap (p : Int) = (p : Int) := by rw [IntKind.wrap_i64]; omega
    have w1k : IntKind.i64.wrap (k : Int) = (k : Int) := by rw [IntKind.wrap_i64]; omega
    have C3 := Lib.hid (wtake_ok w2.drew r S k _ (show IsWs w2.drew r S (xs ++ rest) from HS2.out) (by rw [List.length_append, Hk.out]; omega))
    have hne1 : b2 ≠ w1.heap.size := by omega
    have hk47 : k ≤ 140737488355328 := by omega
    have hner : w1.heap.size ≠ r := by omega
    go_upto_region 13 with fail
    go_cut [4] (fun _ wd => ∃ A4 c4, wd.heap[w1.heap.size]? = some (.cells #[.int .u8 (2 : Int), .int .i64 (p : Int), .slice A4 k c4, .int .i64 0] 63 (0, 0)) ∧ wd.ownsRow w2.heap.size 5 1 (.slice A4 k c4) k (vals .u8 xs) ∧ IsWs wd r S (rest) ∧ w.grownBy wd (some r) ∧ wd.heap[w.heap.size]? = some (.cells #[.int .u8 0, .int .i64 0, .slice none 0 0, .int .i64 0] 63 (0, 0)))
    case first =>
      go_region_held3 (fun w' => w'.cell? ⟨b2, off2, none⟩ = some (.int .u8 (p : Int)) ∧ w'.cell? ⟨b2, off2 + 1, none⟩ = some (.int .u8 (k : Int)))
        (((try go_split_ands); refine ⟨?_, ?_⟩ <;> first | assumption | exact cell_otherD (by assumption) hne1 | exact cell_other (by assumption) hne1))
        (first
          | (go_at_call 81; refine C3.out.mono ?_; rintro e w3 ⟨A3, c3, rfl, hc3, hR3, hS3, hg3, hz3, _⟩; have s0 : w3.cell? ⟨b2, off2, none⟩ = some (.int .u8 (p : Int)) := (hg3.cell_far ⟨b2, off2, none⟩ (World.block_lt_of_cell? w2 _ h0) (fun e => hbr (by injection e))).trans h0; have s1 : w3.cell? ⟨b2, off2 + 1, none⟩ = some (.int .u8 (k : Int)) := (hg3.cell_far ⟨b2, off2 + 1, none⟩ (World.block_lt_of_cell? w2 _ h1) (fun e => hbr (by injection e))).trans h1; rw [List.take_left' Hk.out] at hR3; rw [List.drop_left' Hk.out] at hS3; have HR3 := Lib.hid hR3; have HS3 := Lib.hid hS3; have HG3 := Lib.hid hg3; clear hR3 hS3 hg3)
          | (go_at_call 61; refine (clone_any A3 k c3 xs w3 Hk.out hk47 HR3.out).mono ?_; rintro e w4 ⟨A4, c4, rfl, hown4, hy4⟩; rw [Hk.out] at hown4 ⊢; have t0 := ext_cell hy4 s0; have t1 := ext_cell hy4 s1; have KC4 := Lib.hid (blk_ext (blk_grown (show w2.drew.heap[w1.heap.size]? = _ from K3.out) HG3.out hner) hy4); have u1 := blk_cell KC4.out 1; have u2 := blk_cell KC4.out 2; have f1 := blk_frozen KC4.out 1; have f2 := blk_frozen KC4.out 2; have Hown4 := Lib.hid hown4; have Hy4 := Lib.hid hy4; clear hown4 hy4))
      all_goals
        go_wp2_with fail
        go_meet
        have hG := grown_setCell (grown_set w4 w1.heap.size 1 (.int .i64 (p : Int))) 2 (.slice A4 k c4)
        have hs3 : w2.heap.size = w3.heap.size := hz3
        have hG3 : w2.grownBy w3 (some r) := grown_undrew HG3.out
        have hG4 := grown_ext (World.grown_trans HGA.out hG3) Hy4.out
        have hoo : w4.ownsRow w2.heap.size 5 1 (.slice A4 k c4) k (vals .u8 xs) := own_base Hown4.out (by omega)
        exact ⟨A4, c4, blk_set (blk_set KC4.out 1 _) 2 _, hoo.kept hG (own_ne hoo (by omega)), (HS3.out.ext Hy4.out).grown hG (fun k hk => by injection hk with hk; omega), grown_new hG4 hG (by omega), blk_grown' (blk_ext (blk_grown' K2'.out hG3 (by omega)) Hy4.out) hG (by omega)⟩
    case rest =>
      obtain ⟨A4, c4, hC, ho, hSx, hGx, hR⟩ := hcut
      have KC := Lib.hid hC; have Ho := Lib.hid ho; have HSx := Lib.hid hSx; have HGx := Lib.hid hGx; have KR := Lib.hid hR
      have g0 := blk_cell KC.out 0
      clear hC ho hSx hGx hR h0 h1
      go_wp2_with fail
      go_meet
      refine ⟨A4, c4, ?_, KR.out, ?_, HSx.out, HGx.out⟩
      · rw [Hk.out]; exact KC.out
      · rw [Hk.out]; exact own_base Ho.out (by omega)
  case rest =>
    obtain ⟨A3, c3, hC, hR, ho, hS, hG⟩ := hcut
    have KC := Lib.hid hC; have KR := Lib.hid hR; have Ho := Lib.hid ho; have HSc := Lib.hid hS; have HGc := Lib.hid hG
    clear hC hR ho hS hG
    have c0 := blk_cell KC.out 0; have c1 := blk_cell KC.out 1; have c2 := blk_cell KC.out 2; have c3 := blk_cell KC.out 3
    have k0 := blk_cell KR.out 0; have k1 := blk_cell KR.out 1; have k2 := blk_cell KR.out 2; have k3 := blk_cell KR.out 3
    have f0 := blk_frozen KR.out 0; have f1 := blk_frozen KR.out 1; have f2 := blk_frozen KR.out 2; have f3 := blk_frozen KR.out 3
    go_wp2_with fail
    refine bodyPost_ret (ret_call1 rfl rfl (row4 KR.out _ _ _ _)) rfl ?_
    exact ⟨A3, _, rfl, own_row4 Ho.out (by omega) _ _ _ _, ws_row4 HSc.out (by omega) hSw _ _ _ _, grown_row4 HGc.out (Nat.le_refl _) _ _ _ _⟩

set_option maxHeartbeats 4000000 in
set_option maxRecDepth 100000 in
theorem call4_ok (w : World) (r S p : Nat) (xs rest : List Nat) (hSw : S ≤ w.heap.size) (hb : ∀ x ∈ xs, x < 256) (hp : p < 32) (hx : xs.length ≤ 255) (h : IsWs w r S (4 :: p :: xs.length :: (xs ++ rest))) :
    Calls Try.prog 78 #[.pointer (some ⟨r, 0, none⟩)] w (CallR 4 p xs 0 rest w r S) := by
  have hr := h.lt
  have H := Lib.hid (fun o : Obj => h.ext ((Ext.refl w).alloc o)); clear h
  have Hb := Lib.hid hb; clear hb
  obtain ⟨k, Hk⟩ : ∃ k, Hid (xs.length = k) := ⟨_, rfl⟩
  rw [Hk.out] at H hx
  go_enter Try.func78, Try.ntmps78
  go_wp2_with fail
  refine (wtake_ok _ r S 1 _ (H.out _) (by simp)).mono ?_
  rintro e w1 ⟨A, c, rfl, hc, hR, hS, hg, hz, hbl⟩
  obtain ⟨b, off, rfl, hc0⟩ := head_cell hR
  have K2 := Lib.hid (blk_grown (blk_new w _) hg (by omega))
  have HS := Lib.hid (show IsWs w1 r S (p :: k :: (xs ++ rest)) from hS); have HG := Lib.hid hg
  rw [World.size_alloc] at hz
  clear hR hS hg hbl
  go_upto_block 0 with fail
  go_cut [6] (fun _ wd => CallMid 4 p xs 0 rest w r S w1.heap.size wd)
  case first =>
    go_wp2_with fail
    refine (wtake_ok _ r S 2 _ (HS.out.ext ((Ext.refl w1).alloc _)) (by simp)).mono ?_
    rintro e w2 ⟨A2, c2, rfl, hc2, hR2, hS2, hg2, hz2, hbl2⟩
    rw [World.size_alloc] at hz2
    have HS2 := Lib.hid (show IsWs w2 r S (xs ++ rest) from hS2)
    obtain ⟨b2, off2, rfl, hcc⟩ := hR2 (by simp [vals])
    have h0 : w2.cell? ⟨b2, off2, none⟩ = some (.int .u8 (p : Int)) := hcc 0 _ rfl
    have h1 : w2.cell? ⟨b2, off2 + 1, none⟩ = some (.int .u8 (k : Int)) := hcc 1 _ rfl
    obtain ⟨hbr, hbS⟩ := hbl2 (by simp) _ rfl
    have hbr : b2 ≠ r := hbr
    have hbS : b2 < S := hbS
    have K3 := Lib.hid (blk_grown (blk_new w1 _) hg2 (by omega))
    have K2' := Lib.hid (blk_grown (blk_past K2.out _) hg2 (by omega))
    have HGA := Lib.hid (World.grown_trans (grown_alloc (World.grown_trans (grown_none ((Ext.refl w).alloc (.cells #[.int .u8 0, .int .i64 0, .slice none 0 0, .int .i64 0] 63)) (some r)) HG.out) _) hg2)
    clear hcc hR2 hS2 hg2 HS K2 HG hbl2 hc0
    have hp32 : decide ((p : Int) < 32) = true := by simp; omega
    go_wp2_with fail
    refine (must_ok _ _).mono ?_
    rintro e w' ⟨rfl, rfl⟩
    have w1p : IntKind.i64.wrap (p : Int) = (p : Int) := by rw [IntKind.wrap_i64]; omega
    have w1k : IntKind.i64.wrap (k : Int) = (k : Int) := by rw [IntKind.wrap_i64]; omega
    have C3 := Lib.hid (wtake_ok w2.drew r S k _ (show IsWs w2.drew r S (xs ++ rest) from HS2.out) (by rw [List.length_append, Hk.out]; omega))
    have hne1 : b2 ≠ w1.heap.size := by omega
    have hk47 : k ≤ 140737488355328 := by omega
    have hner : w1.heap.size ≠ r := by omega
    go_upto_region 13 with fail
    go_cut [4] (fun _ wd => ∃ A4 c4, wd.heap[w1.heap.size]? = some (.cells #[.int .u8 (4 : Int), .int .i64 (p : Int), .slice A4 k c4, .int .i64 0] 63 (0, 0)) ∧ wd.ownsRow w2.heap.size 5 1 (.slice A4 k c4) k (vals .u8 xs) ∧ IsWs wd r S (rest) ∧ w.grownBy wd (some r) ∧ wd.heap[w.heap.size]? = some (.cells #[.int .u8 0, .int .i64 0, .slice none 0 0, .int .i64 0] 63 (0, 0)))
    case first =>
      go_region_held3 (fun w' => w'.cell? ⟨b2, off2, none⟩ = some (.int .u8 (p : Int)) ∧ w'.cell? ⟨b2, off2 + 1, none⟩ = some (.int .u8 (k : Int)))
        (((try go_split_ands); refine ⟨?_, ?_⟩ <;> first | assumption | exact cell_otherD (by assumption) hne1 | exact cell_other (by assumption) hne1))
        (first
          | (go_at_call 81; refine C3.out.mono ?_; rintro e w3 ⟨A3, c3, rfl, hc3, hR3, hS3, hg3, hz3, _⟩; have s0 : w3.cell? ⟨b2, off2, none⟩ = some (.int .u8 (p : Int)) := (hg3.cell_far ⟨b2, off2, none⟩ (World.block_lt_of_cell? w2 _ h0) (fun e => hbr (by injection e))).trans h0; have s1 : w3.cell? ⟨b2, off2 + 1, none⟩ = some (.int .u8 (k : Int)) := (hg3.cell_far ⟨b2, off2 + 1, none⟩ (World.block_lt_of_cell? w2 _ h1) (fun e => hbr (by injection e))).trans h1; rw [List.take_left' Hk.out] at hR3; rw [List.drop_left' Hk.out] at hS3; have HR3 := Lib.hid hR3; have HS3 := Lib.hid hS3; have HG3 := Lib.hid hg3; clear hR3 hS3 hg3)
          | (go_at_call 61; refine (clone_any A3 k c3 xs w3 Hk.out hk47 HR3.out).mono ?_; rintro e w4 ⟨A4, c4, rfl, hown4, hy4⟩; rw [Hk.out] at hown4 ⊢; have t0 := ext_cell hy4 s0; have t1 := ext_cell hy4 s1; have KC4 := Lib.hid (blk_ext (blk_grown (show w2.drew.heap[w1.heap.size]? = _ from K3.out) HG3.out hner) hy4); have u1 := blk_cell KC4.out 1; have u2 := blk_cell KC4.out 2; have f1 := blk_frozen KC4.out 1; have f2 := blk_frozen KC4.out 2; have Hown4 := Lib.hid hown4; have Hy4 := Lib.hid hy4; clear hown4 hy4))
      all_goals
        go_wp2_with fail
        go_meet
        have hG := grown_setCell (grown_set w4 w1.heap.size 1 (.int .i64 (p : Int))) 2 (.slice A4 k c4)
        have hs3 : w2.heap.size = w3.heap.size := hz3
        have hG3 : w2.grownBy w3 (some r) := grown_undrew HG3.out
        have hG4 := grown_ext (World.grown_trans HGA.out hG3) Hy4.out
        have hoo : w4.ownsRow w2.heap.size 5 1 (.slice A4 k c4) k (vals .u8 xs) := own_base Hown4.out (by omega)
        exact ⟨A4, c4, blk_set (blk_set KC4.out 1 _) 2 _, hoo.kept hG (own_ne hoo (by omega)), (HS3.out.ext Hy4.out).grown hG (fun k hk => by injection hk with hk; omega), grown_new hG4 hG (by omega), blk_grown' (blk_ext (blk_grown' K2'.out hG3 (by omega)) Hy4.out) hG (by omega)⟩
    case rest =>
      obtain ⟨A4, c4, hC, ho, hSx, hGx, hR⟩ := hcut
      have KC := Lib.hid hC; have Ho := Lib.hid ho; have HSx := Lib.hid hSx; have HGx := Lib.hid hGx; have KR := Lib.hid hR
      have g0 := blk_cell KC.out 0
      clear hC ho hSx hGx hR h0 h1
      go_wp2_with fail
      go_meet
      refine ⟨A4, c4, ?_, KR.out, ?_, HSx.out, HGx.out⟩
      · rw [Hk.out]; exact KC.out
      · rw [Hk.out]; exact own_base Ho.out (by omega)
  case rest =>
    obtain ⟨A3, c3, hC, hR, ho, hS, hG⟩ := hcut
    have KC := Lib.hid hC; have KR := Lib.hid hR; have Ho := Lib.hid ho; have HSc := Lib.hid hS; have HGc := Lib.hid hG
    clear hC hR ho hS hG
    have c0 := blk_cell KC.out 0; have c1 := blk_cell KC.out 1; have c2 := blk_cell KC.out 2; have c3 := blk_cell KC.out 3
    have k0 := blk_cell KR.out 0; have k1 := blk_cell KR.out 1; have k2 := blk_cell KR.out 2; have k3 := blk_cell KR.out 3
    have f0 := blk_frozen KR.out 0; have f1 := blk_frozen KR.out 1; have f2 := blk_frozen KR.out 2; have f3 := blk_frozen KR.out 3
    go_wp2_with fail
    refine bodyPost_ret (ret_call1 rfl rfl (row4 KR.out _ _ _ _)) rfl ?_
    exact ⟨A3, _, rfl, own_row4 Ho.out (by omega) _ _ _ _, ws_row4 HSc.out (by omega) hSw _ _ _ _, grown_row4 HGc.out (Nat.le_refl _) _ _ _ _⟩

set_option maxHeartbeats 4000000 in
set_option maxRecDepth 100000 in
theorem call1_ok (w : World) (r S p N : Nat) (xs rest : List Nat) (hSw : S ≤ w.heap.size) (hb : ∀ x ∈ xs, x < 256) (hp : p < 32) (hx : xs.length ≤ 255) (hN : N ≤ 4611686018427387903) (hbr' : ∀ x ∈ rest, x < 256) (h : IsWs w r S (1 :: p :: xs.length :: (xs ++ (wordB N 8 ++ rest)))) :
    Calls Try.prog 78 #[.pointer (some ⟨r, 0, none⟩)] w (CallR 1 p xs N rest w r S) := by
  have hr := h.lt
  have H := Lib.hid (fun o : Obj => h.ext ((Ext.refl w).alloc o)); clear h
  have Hb := Lib.hid hb; clear hb
  obtain ⟨k, Hk⟩ : ∃ k, Hid (xs.length = k) := ⟨_, rfl⟩
  rw [Hk.out] at H hx
  go_enter Try.func78, Try.ntmps78
  go_wp2_with fail
  refine (wtake_ok _ r S 1 _ (H.out _) (by simp)).mono ?_
  rintro e w1 ⟨A, c, rfl, hc, hR, hS, hg, hz, hbl⟩
  obtain ⟨b, off, rfl, hc0⟩ := head_cell hR
  have K2 := Lib.hid (blk_grown (blk_new w _) hg (by omega))
  have HS := Lib.hid (show IsWs w1 r S (p :: k :: (xs ++ (wordB N 8 ++ rest))) from hS); have HG := Lib.hid hg
  rw [World.size_alloc] at hz
  clear hR hS hg hbl
  go_upto_block 0 with fail
  go_cut [6] (fun _ wd => CallMid 1 p xs N rest w r S w1.heap.size wd)
  case first =>
    go_wp2_with fail
    refine (wtake_ok _ r S 2 _ (HS.out.ext ((Ext.refl w1).alloc _)) (by simp)).mono ?_
    rintro e w2 ⟨A2, c2, rfl, hc2, hR2, hS2, hg2, hz2, hbl2⟩
    rw [World.size_alloc] at hz2
    have HS2 := Lib.hid (show IsWs w2 r S (xs ++ (wordB N 8 ++ rest)) from hS2)
    obtain ⟨b2, off2, rfl, hcc⟩ := hR2 (by simp [vals])
    have h0 : w2.cell? ⟨b2, off2, none⟩ = some (.int .u8 (p : Int)) := hcc 0 _ rfl
    have h1 : w2.cell? ⟨b2, off2 + 1, none⟩ = some (.int .u8 (k : Int)) := hcc 1 _ rfl
    obtain ⟨hbr, hbS⟩ := hbl2 (by simp) _ rfl
    have hbr : b2 ≠ r := hbr
    have hbS : b2 < S := hbS
    have K3 := Lib.hid (blk_grown (blk_new w1 _) hg2 (by omega))
    have K2' := Lib.hid (blk_grown (blk_past K2.out _) hg2 (by omega))
    have HGA := Lib.hid (World.grown_trans (grown_alloc (World.grown_trans (grown_none ((Ext.refl w).alloc (.cells #[.int .u8 0, .int .i64 0, .slice none 0 0, .int .i64 0] 63)) (some r)) HG.out) _) hg2)
    clear hcc hR2 hS2 hg2 HS K2 HG hbl2 hc0
    have hp32 : decide ((p : Int) < 32) = true := by simp; omega
    go_wp2_with fail
    refine (must_ok _ _).mono ?_
    rintro e w' ⟨rfl, rfl⟩
    have w1p : IntKind.i64.wrap (p : Int) = (p : Int) := by rw [IntKind.wrap_i64]; omega
    have w1k : IntKind.i64.wrap (k : Int) = (k : Int) := by rw [IntKind.wrap_i64]; omega
    have C3 := Lib.hid (wtake_ok w2.drew r S k _ (show IsWs w2.drew r S (xs ++ (wordB N 8 ++ rest)) from HS2.out) (by rw [List.length_append, Hk.out]; omega))
    have hne1 : b2 ≠ w1.heap.size := by omega
    have hk47 : k ≤ 140737488355328 := by omega
    have hner : w1.heap.size ≠ r := by omega
    go_upto_region 13 with fail
    go_cut [4] (fun _ wd => ∃ A4 c4, wd.heap[w1.heap.size]? = some (.cells #[.int .u8 (1 : Int), .int .i64 (p : Int), .slice A4 k c4, .int .i64 0] 63 (0, 0)) ∧ wd.ownsRow w2.heap.size 5 1 (.slice A4 k c4) k (vals .u8 xs) ∧ IsWs wd r S (wordB N 8 ++ rest) ∧ w.grownBy wd (some r) ∧ wd.heap[w.heap.size]? = some (.cells #[.int .u8 0, .int .i64 0, .slice none 0 0, .int .i64 0] 63 (0, 0)))
    case first =>
      go_region_held3 (fun w' => w'.cell? ⟨b2, off2, none⟩ = some (.int .u8 (p : Int)) ∧ w'.cell? ⟨b2, off2 + 1, none⟩ = some (.int .u8 (k : Int)))
        (((try go_split_ands); refine ⟨?_, ?_⟩ <;> first | assumption | exact cell_otherD (by assumption) hne1 | exact cell_other (by assumption) hne1))
        (first
          | (go_at_call 81; refine C3.out.mono ?_; rintro e w3 ⟨A3, c3, rfl, hc3, hR3, hS3, hg3, hz3, _⟩; have s0 : w3.cell? ⟨b2, off2, none⟩ = some (.int .u8 (p : Int)) := (hg3.cell_far ⟨b2, off2, none⟩ (World.block_lt_of_cell? w2 _ h0) (fun e => hbr (by injection e))).trans h0; have s1 : w3.cell? ⟨b2, off2 + 1, none⟩ = some (.int .u8 (k : Int)) := (hg3.cell_far ⟨b2, off2 + 1, none⟩ (World.block_lt_of_cell? w2 _ h1) (fun e => hbr (by injection e))).trans h1; rw [List.take_left' Hk.out] at hR3; rw [List.drop_left' Hk.out] at hS3; have HR3 := Lib.hid hR3; have HS3 := Lib.hid hS3; have HG3 := Lib.hid hg3; clear hR3 hS3 hg3)
          | (go_at_call 61; refine (clone_any A3 k c3 xs w3 Hk.out hk47 HR3.out).mono ?_; rintro e w4 ⟨A4, c4, rfl, hown4, hy4⟩; rw [Hk.out] at hown4 ⊢; have t0 := ext_cell hy4 s0; have t1 := ext_cell hy4 s1; have KC4 := Lib.hid (blk_ext (blk_grown (show w2.drew.heap[w1.heap.size]? = _ from K3.out) HG3.out hner) hy4); have u1 := blk_cell KC4.out 1; have u2 := blk_cell KC4.out 2; have f1 := blk_frozen KC4.out 1; have f2 := blk_frozen KC4.out 2; have Hown4 := Lib.hid hown4; have Hy4 := Lib.hid hy4; clear hown4 hy4))
      all_goals
        go_wp2_with fail
        go_meet
        have hG := grown_setCell (grown_set w4 w1.heap.size 1 (.int .i64 (p : Int))) 2 (.slice A4 k c4)
        have hs3 : w2.heap.size = w3.heap.size := hz3
        have hG3 : w2.grownBy w3 (some r) := grown_undrew HG3.out
        have hG4 := grown_ext (World.grown_trans HGA.out hG3) Hy4.out
        have hoo : w4.ownsRow w2.heap.size 5 1 (.slice A4 k c4) k (vals .u8 xs) := own_base Hown4.out (by omega)
        exact ⟨A4, c4, blk_set (blk_set KC4.out 1 _) 2 _, hoo.kept hG (own_ne hoo (by omega)), (HS3.out.ext Hy4.out).grown hG (fun k hk => by injection hk with hk; omega), grown_new hG4 hG (by omega), blk_grown' (blk_ext (blk_grown' K2'.out hG3 (by omega)) Hy4.out) hG (by omega)⟩
    case rest =>
      obtain ⟨A4, c4, hC, ho, hSx, hGx, hR⟩ := hcut
      have KC := Lib.hid hC; have Ho := Lib.hid ho; have HSx := Lib.hid hSx; have HGx := Lib.hid hGx; have KR := Lib.hid hR
      have g0 := blk_cell KC.out 0
      clear hC ho hSx hGx hR h0 h1
      have hw8 : (wordB N 8 ++ rest).take 8 = wordB N 8 := List.take_left' (wordB_len N 8)
      have hd8 : (wordB N 8 ++ rest).drop 8 = rest := List.drop_left' (wordB_len N 8)
      have hn8 : numB (wordB N 8) = N := by rw [numB_wordB]; exact Nat.mod_eq_of_lt (Nat.lt_of_le_of_lt hN (by decide))
      have hbt : ∀ x ∈ wordB N 8 ++ rest, x < 256 := fun x hx => by
        rcases List.mem_append.1 hx with hx | hx
        · exact wordB_lt _ _ x hx
        · exact hbr' x hx
      have C5 := Lib.hid (wnumber_any wc r S (wordB N 8 ++ rest) hbt HSx.out)
      clear hbt
      go_wp2_with fail
      refine C5.out.mono ?_
      rintro e w5 ⟨hg5, hz5, hh⟩
      rw [hw8, hd8, hn8] at hh
      rcases hh with ⟨_, _, rfl, hS5⟩ | ⟨hno, _⟩
      · have KC5 := Lib.hid (blk_grown' KC.out hg5 (by omega)); have HS5 := Lib.hid hS5; have HG5 := Lib.hid hg5
        have u3 := blk_cell KC5.out 3; have f3 := blk_frozen KC5.out 3
        clear hS5 hg5 hw8 hd8 hn8 g0 C5
        go_wp2_with fail
        go_meet
        have hG := grown_set w5 w1.heap.size 3 (.int .i64 (N : Int))
        have hoo := Ho.out.kept HG5.out (own_ne Ho.out (by omega))
        refine ⟨A4, c4, ?_, blk_grown' (blk_grown' KR.out HG5.out (by omega)) hG (by omega), ?_, HS5.out.grown hG (fun k hk => by injection hk with hk; omega), grown_new (World.grown_trans HGx.out HG5.out) hG (by omega)⟩
        · rw [Hk.out]; exact blk_set KC5.out 3 _
        · rw [Hk.out]; exact own_base (hoo.kept hG (own_ne hoo (by omega))) (by omega)
      · exact absurd ⟨by rw [List.length_append, wordB_len]; omega, hN⟩ hno
  case rest =>
    obtain ⟨A3, c3, hC, hR, ho, hS, hG⟩ := hcut
    have KC := Lib.hid hC; have KR := Lib.hid hR; have Ho := Lib.hid ho; have HSc := Lib.hid hS; have HGc := Lib.hid hG
    clear hC hR ho hS hG
    have c0 := blk_cell KC.out 0; have c1 := blk_cell KC.out 1; have c2 := blk_cell KC.out 2; have c3 := blk_cell KC.out 3
    have k0 := blk_cell KR.out 0; have k1 := blk_cell KR.out 1; have k2 := blk_cell KR.out 2; have k3 := blk_cell KR.out 3
    have f0 := blk_frozen KR.out 0; have f1 := blk_frozen KR.out 1; have f2 := blk_frozen KR.out 2; have f3 := blk_frozen KR.out 3
    go_wp2_with fail
    refine bodyPost_ret (ret_call1 rfl rfl (row4 KR.out _ _ _ _)) rfl ?_
    exact ⟨A3, _, rfl, own_row4 Ho.out (by omega) _ _ _ _, ws_row4 HSc.out (by omega) hSw _ _ _ _, grown_row4 HGc.out (Nat.le_refl _) _ _ _ _⟩
end Go.Proofs.Ythkdjjfnmlemdaa
