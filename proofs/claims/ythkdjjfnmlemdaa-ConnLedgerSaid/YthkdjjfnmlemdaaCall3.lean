/- wire.reader's call: bytes that are no call's. -/
import Derived.Test.YthkdjjfnmlemdaaCall2
namespace Go.Proofs.Ythkdjjfnmlemdaa
open Go.RowKit
/-- a way that is over: what is left is nothing -/
theorem over_any {p : Prop} {w : World} (h : p) : wpAny Try.prog .text #[] (fun _ _ _ => True) 0 #[] { tmps := #[], defers := [] } w → p := fun _ => h

set_option maxHeartbeats 2000000 in
set_option maxRecDepth 100000 in
theorem call1_few (w : World) (r S : Nat) (z : List Nat) (_hSw : S ≤ w.heap.size) (hlen : z.length < 2) (h : IsWs w r S (1 :: z)) :
    Calls Try.prog 78 #[.pointer (some ⟨r, 0, none⟩)] w (WrongR w r) := by
  have hr := h.lt
  have H := Lib.hid (fun o : Obj => h.ext ((Ext.refl w).alloc o)); clear h
  go_enter Try.func78, Try.ntmps78
  go_wp2_with fail
  refine (wtake_ok _ r S 1 _ (H.out _) (by simp)).mono ?_
  rintro e w1 ⟨A, c, rfl, hc, hR, hS, hg, hz, hbl⟩
  obtain ⟨b, off, rfl, hc0⟩ := head_cell hR
  have HS := Lib.hid (show IsWs w1 r S (z) from hS); have HG := Lib.hid hg
  rw [World.size_alloc] at hz
  clear hR hS hg hbl
  have HGB := Lib.hid (fun o : Obj => grown_alloc (World.grown_trans (grown_none ((Ext.refl w).alloc (.cells #[.int .u8 0, .int .i64 0, .slice none 0 0, .int .i64 0] 63)) (some r)) HG.out) o)
  go_wp2_with fail
  refine (wtake_no _ r S 2 _ (HS.out.ext ((Ext.refl w1).alloc _)) hlen).mono ?_
  rintro e w' ⟨rfl, rfl⟩
  exact ⟨rfl, rfl, HGB.out _⟩

set_option maxHeartbeats 2000000 in
set_option maxRecDepth 100000 in
theorem call1_pol (w : World) (r S : Nat) (p k : Nat) (t : List Nat) (_hSw : S ≤ w.heap.size) (hp : 32 ≤ p) (h : IsWs w r S (1 :: p :: k :: t)) :
    Calls Try.prog 78 #[.pointer (some ⟨r, 0, none⟩)] w (WrongR w r) := by
  have hr := h.lt
  have H := Lib.hid (fun o : Obj => h.ext ((Ext.refl w).alloc o)); clear h
  go_enter Try.func78, Try.ntmps78
  go_wp2_with fail
  refine (wtake_ok _ r S 1 _ (H.out _) (by simp)).mono ?_
  rintro e w1 ⟨A, c, rfl, hc, hR, hS, hg, hz, hbl⟩
  obtain ⟨b, off, rfl, hc0⟩ := head_cell hR
  have HS := Lib.hid (show IsWs w1 r S (p :: k :: t) from hS); have HG := Lib.hid hg
  rw [World.size_alloc] at hz
  clear hR hS hg hbl
  have HGB := Lib.hid (fun o : Obj => grown_alloc (World.grown_trans (grown_none ((Ext.refl w).alloc (.cells #[.int .u8 0, .int .i64 0, .slice none 0 0, .int .i64 0] 63)) (some r)) HG.out) o)
  go_wp2_with fail
  refine (wtake_ok _ r S 2 _ (HS.out.ext ((Ext.refl w1).alloc _)) (by simp)).mono ?_
  rintro e w2 ⟨A2, c2, rfl, hc2, hR2, hS2, hg2, hz2, hbl2⟩
  rw [World.size_alloc] at hz2
  have HS2 := Lib.hid (show IsWs w2 r S (t) from hS2)
  obtain ⟨b2, off2, rfl, hcc⟩ := hR2 (by simp [vals])
  have h0 : w2.cell? ⟨b2, off2, none⟩ = some (.int .u8 (p : Int)) := hcc 0 _ rfl
  have h1 : w2.cell? ⟨b2, off2 + 1, none⟩ = some (.int .u8 (k : Int)) := hcc 1 _ rfl
  obtain ⟨hbr, hbS⟩ := hbl2 (by simp) _ rfl
  have hbr : b2 ≠ r := hbr
  have hbS : b2 < S := hbS
  have HGA := Lib.hid (World.grown_trans (HGB.out _) hg2)
  clear hcc hR2 hS2 hg2 HS HG hbl2 hc0
  have hp32 : decide ((p : Int) < 32) = false := by simp; omega
  go_wp2_with fail
  refine (must_no _ _).mono ?_
  rintro e w' ⟨rfl, rfl⟩
  exact ⟨rfl, rfl, HGA.out⟩

set_option maxHeartbeats 2000000 in
set_option maxRecDepth 100000 in
theorem call1_key (w : World) (r S : Nat) (p k : Nat) (t : List Nat) (_hSw : S ≤ w.heap.size) (hp : p < 32) (hk : k < 256) (hlen : t.length < k) (h : IsWs w r S (1 :: p :: k :: t)) :
    Calls Try.prog 78 #[.pointer (some ⟨r, 0, none⟩)] w (WrongR w r) := by
  have hr := h.lt
  have H := Lib.hid (fun o : Obj => h.ext ((Ext.refl w).alloc o)); clear h
  go_enter Try.func78, Try.ntmps78
  go_wp2_with fail
  refine (wtake_ok _ r S 1 _ (H.out _) (by simp)).mono ?_
  rintro e w1 ⟨A, c, rfl, hc, hR, hS, hg, hz, hbl⟩
  obtain ⟨b, off, rfl, hc0⟩ := head_cell hR
  have HS := Lib.hid (show IsWs w1 r S (p :: k :: t) from hS); have HG := Lib.hid hg
  rw [World.size_alloc] at hz
  clear hR hS hg hbl
  have HGB := Lib.hid (fun o : Obj => grown_alloc (World.grown_trans (grown_none ((Ext.refl w).alloc (.cells #[.int .u8 0, .int .i64 0, .slice none 0 0, .int .i64 0] 63)) (some r)) HG.out) o)
  go_wp2_with fail
  refine (wtake_ok _ r S 2 _ (HS.out.ext ((Ext.refl w1).alloc _)) (by simp)).mono ?_
  rintro e w2 ⟨A2, c2, rfl, hc2, hR2, hS2, hg2, hz2, hbl2⟩
  rw [World.size_alloc] at hz2
  have HS2 := Lib.hid (show IsWs w2 r S (t) from hS2)
  obtain ⟨b2, off2, rfl, hcc⟩ := hR2 (by simp [vals])
  have h0 : w2.cell? ⟨b2, off2, none⟩ = some (.int .u8 (p : Int)) := hcc 0 _ rfl
  have h1 : w2.cell? ⟨b2, off2 + 1, none⟩ = some (.int .u8 (k : Int)) := hcc 1 _ rfl
  obtain ⟨hbr, hbS⟩ := hbl2 (by simp) _ rfl
  have hbr : b2 ≠ r := hbr
  have hbS : b2 < S := hbS
  have HGA := Lib.hid (World.grown_trans (HGB.out _) hg2)
  clear hcc hR2 hS2 hg2 HS HG hbl2 hc0
  have hp32 : decide ((p : Int) < 32) = true := by simp; omega
  go_wp2_with fail
  refine (must_ok _ _).mono ?_
  rintro e w' ⟨rfl, rfl⟩
  have C3 := Lib.hid (wtake_no w2.drew r S k _ (show IsWs w2.drew r S t from HS2.out) hlen)
  have w1p : IntKind.i64.wrap (p : Int) = (p : Int) := by rw [IntKind.wrap_i64]; omega
  have w1k : IntKind.i64.wrap (k : Int) = (k : Int) := by rw [IntKind.wrap_i64]; omega
  have hfin : w.grownBy w2.drew (some r) := grown_drew HGA.out
  go_upto_region 13 with fail
  go_region_with (go_at_call 81; refine C3.out.mono ?_; rintro e w3 ⟨rfl, rfl⟩; refine over_any (w := w2) ⟨rfl, rfl, hfin⟩ ?_)
  all_goals exact trivial

set_option maxHeartbeats 2000000 in
set_option maxRecDepth 100000 in
theorem call2_few (w : World) (r S : Nat) (z : List Nat) (_hSw : S ≤ w.heap.size) (hlen : z.length < 2) (h : IsWs w r S (2 :: z)) :
    Calls Try.prog 78 #[.pointer (some ⟨r, 0, none⟩)] w (WrongR w r) := by
  have hr := h.lt
  have H := Lib.hid (fun o : Obj => h.ext ((Ext.refl w).alloc o)); clear h
  go_enter Try.func78, Try.ntmps78
  go_wp2_with fail
  refine (wtake_ok _ r S 1 _ (H.out _) (by simp)).mono ?_
  rintro e w1 ⟨A, c, rfl, hc, hR, hS, hg, hz, hbl⟩
  obtain ⟨b, off, rfl, hc0⟩ := head_cell hR
  have HS := Lib.hid (show IsWs w1 r S (z) from hS); have HG := Lib.hid hg
  rw [World.size_alloc] at hz
  clear hR hS hg hbl
  have HGB := Lib.hid (fun o : Obj => grown_alloc (World.grown_trans (grown_none ((Ext.refl w).alloc (.cells #[.int .u8 0, .int .i64 0, .slice none 0 0, .int .i64 0] 63)) (some r)) HG.out) o)
  go_wp2_with fail
  refine (wtake_no _ r S 2 _ (HS.out.ext ((Ext.refl w1).alloc _)) hlen).mono ?_
  rintro e w' ⟨rfl, rfl⟩
  exact ⟨rfl, rfl, HGB.out _⟩

set_option maxHeartbeats 2000000 in
set_option maxRecDepth 100000 in
theorem call2_pol (w : World) (r S : Nat) (p k : Nat) (t : List Nat) (_hSw : S ≤ w.heap.size) (hp : 32 ≤ p) (h : IsWs w r S (2 :: p :: k :: t)) :
    Calls Try.prog 78 #[.pointer (some ⟨r, 0, none⟩)] w (WrongR w r) := by
  have hr := h.lt
  have H := Lib.hid (fun o : Obj => h.ext ((Ext.refl w).alloc o)); clear h
  go_enter Try.func78, Try.ntmps78
  go_wp2_with fail
  refine (wtake_ok _ r S 1 _ (H.out _) (by simp)).mono ?_
  rintro e w1 ⟨A, c, rfl, hc, hR, hS, hg, hz, hbl⟩
  obtain ⟨b, off, rfl, hc0⟩ := head_cell hR
  have HS := Lib.hid (show IsWs w1 r S (p :: k :: t) from hS); have HG := Lib.hid hg
  rw [World.size_alloc] at hz
  clear hR hS hg hbl
  have HGB := Lib.hid (fun o : Obj => grown_alloc (World.grown_trans (grown_none ((Ext.refl w).alloc (.cells #[.int .u8 0, .int .i64 0, .slice none 0 0, .int .i64 0] 63)) (some r)) HG.out) o)
  go_wp2_with fail
  refine (wtake_ok _ r S 2 _ (HS.out.ext ((Ext.refl w1).alloc _)) (by simp)).mono ?_
  rintro e w2 ⟨A2, c2, rfl, hc2, hR2, hS2, hg2, hz2, hbl2⟩
  rw [World.size_alloc] at hz2
  have HS2 := Lib.hid (show IsWs w2 r S (t) from hS2)
  obtain ⟨b2, off2, rfl, hcc⟩ := hR2 (by simp [vals])
  have h0 : w2.cell? ⟨b2, off2, none⟩ = some (.int .u8 (p : Int)) := hcc 0 _ rfl
  have h1 : w2.cell? ⟨b2, off2 + 1, none⟩ = some (.int .u8 (k : Int)) := hcc 1 _ rfl
  obtain ⟨hbr, hbS⟩ := hbl2 (by simp) _ rfl
  have hbr : b2 ≠ r := hbr
  have hbS : b2 < S := hbS
  have HGA := Lib.hid (World.grown_trans (HGB.out _) hg2)
  clear hcc hR2 hS2 hg2 HS HG hbl2 hc0
  have hp32 : decide ((p : Int) < 32) = false := by simp; omega
  go_wp2_with fail
  refine (must_no _ _).mono ?_
  rintro e w' ⟨rfl, rfl⟩
  exact ⟨rfl, rfl, HGA.out⟩

set_option maxHeartbeats 2000000 in
set_option maxRecDepth 100000 in
theorem call2_key (w : World) (r S : Nat) (p k : Nat) (t : List Nat) (_hSw : S ≤ w.heap.size) (hp : p < 32) (hk : k < 256) (hlen : t.length < k) (h : IsWs w r S (2 :: p :: k :: t)) :
    Calls Try.prog 78 #[.pointer (some ⟨r, 0, none⟩)] w (WrongR w r) := by
  have hr := h.lt
  have H := Lib.hid (fun o : Obj => h.ext ((Ext.refl w).alloc o)); clear h
  go_enter Try.func78, Try.ntmps78
  go_wp2_with fail
  refine (wtake_ok _ r S 1 _ (H.out _) (by simp)).mono ?_
  rintro e w1 ⟨A, c, rfl, hc, hR, hS, hg, hz, hbl⟩
  obtain ⟨b, off, rfl, hc0⟩ := head_cell hR
  have HS := Lib.hid (show IsWs w1 r S (p :: k :: t) from hS); have HG := Lib.hid hg
  rw [World.size_alloc] at hz
  clear hR hS hg hbl
  have HGB := Lib.hid (fun o : Obj => grown_alloc (World.grown_trans (grown_none ((Ext.refl w).alloc (.cells #[.int .u8 0, .int .i64 0, .slice none 0 0, .int .i64 0] 63)) (some r)) HG.out) o)
  go_wp2_with fail
  refine (wtake_ok _ r S 2 _ (HS.out.ext ((Ext.refl w1).alloc _)) (by simp)).mono ?_
  rintro e w2 ⟨A2, c2, rfl, hc2, hR2, hS2, hg2, hz2, hbl2⟩
  rw [World.size_alloc] at hz2
  have HS2 := Lib.hid (show IsWs w2 r S (t) from hS2)
  obtain ⟨b2, off2, rfl, hcc⟩ := hR2 (by simp [vals])
  have h0 : w2.cell? ⟨b2, off2, none⟩ = some (.int .u8 (p : Int)) := hcc 0 _ rfl
  have h1 : w2.cell? ⟨b2, off2 + 1, none⟩ = some (.int .u8 (k : Int)) := hcc 1 _ rfl
  obtain ⟨hbr, hbS⟩ := hbl2 (by simp) _ rfl
  have hbr : b2 ≠ r := hbr
  have hbS : b2 < S := hbS
  have HGA := Lib.hid (World.grown_trans (HGB.out _) hg2)
  clear hcc hR2 hS2 hg2 HS HG hbl2 hc0
  have hp32 : decide ((p : Int) < 32) = true := by simp; omega
  go_wp2_with fail
  refine (must_ok _ _).mono ?_
  rintro e w' ⟨rfl, rfl⟩
  have C3 := Lib.hid (wtake_no w2.drew r S k _ (show IsWs w2.drew r S t from HS2.out) hlen)
  have w1p : IntKind.i64.wrap (p : Int) = (p : Int) := by rw [IntKind.wrap_i64]; omega
  have w1k : IntKind.i64.wrap (k : Int) = (k : Int) := by rw [IntKind.wrap_i64]; omega
  have hfin : w.grownBy w2.drew (some r) := grown_drew HGA.out
  go_upto_region 13 with fail
  go_region_with (go_at_call 81; refine C3.out.mono ?_; rintro e w3 ⟨rfl, rfl⟩; refine over_any (w := w2) ⟨rfl, rfl, hfin⟩ ?_)
  all_goals exact trivial

set_option maxHeartbeats 2000000 in
set_option maxRecDepth 100000 in
theorem call4_few (w : World) (r S : Nat) (z : List Nat) (_hSw : S ≤ w.heap.size) (hlen : z.length < 2) (h : IsWs w r S (4 :: z)) :
    Calls Try.prog 78 #[.pointer (some ⟨r, 0, none⟩)] w (WrongR w r) := by
  have hr := h.lt
  have H := Lib.hid (fun o : Obj => h.ext ((Ext.refl w).alloc o)); clear h
  go_enter Try.func78, Try.ntmps78
  go_wp2_with fail
  refine (wtake_ok _ r S 1 _ (H.out _) (by simp)).mono ?_
  rintro e w1 ⟨A, c, rfl, hc, hR, hS, hg, hz, hbl⟩
  obtain ⟨b, off, rfl, hc0⟩ := head_cell hR
  have HS := Lib.hid (show IsWs w1 r S (z) from hS); have HG := Lib.hid hg
  rw [World.size_alloc] at hz
  clear hR hS hg hbl
  have HGB := Lib.hid (fun o : Obj => grown_alloc (World.grown_trans (grown_none ((Ext.refl w).alloc (.cells #[.int .u8 0, .int .i64 0, .slice none 0 0, .int .i64 0] 63)) (some r)) HG.out) o)
  go_wp2_with fail
  refine (wtake_no _ r S 2 _ (HS.out.ext ((Ext.refl w1).alloc _)) hlen).mono ?_
  rintro e w' ⟨rfl, rfl⟩
  exact ⟨rfl, rfl, HGB.out _⟩

set_option maxHeartbeats 2000000 in
set_option maxRecDepth 100000 in
theorem call4_pol (w : World) (r S : Nat) (p k : Nat) (t : List Nat) (_hSw : S ≤ w.heap.size) (hp : 32 ≤ p) (h : IsWs w r S (4 :: p :: k :: t)) :
    Calls Try.prog 78 #[.pointer (some ⟨r, 0, none⟩)] w (WrongR w r) := by
  have hr := h.lt
  have H := Lib.hid (fun o : Obj => h.ext ((Ext.refl w).alloc o)); clear h
  go_enter Try.func78, Try.ntmps78
  go_wp2_with fail
  refine (wtake_ok _ r S 1 _ (H.out _) (by simp)).mono ?_
  rintro e w1 ⟨A, c, rfl, hc, hR, hS, hg, hz, hbl⟩
  obtain ⟨b, off, rfl, hc0⟩ := head_cell hR
  have HS := Lib.hid (show IsWs w1 r S (p :: k :: t) from hS); have HG := Lib.hid hg
  rw [World.size_alloc] at hz
  clear hR hS hg hbl
  have HGB := Lib.hid (fun o : Obj => grown_alloc (World.grown_trans (grown_none ((Ext.refl w).alloc (.cells #[.int .u8 0, .int .i64 0, .slice none 0 0, .int .i64 0] 63)) (some r)) HG.out) o)
  go_wp2_with fail
  refine (wtake_ok _ r S 2 _ (HS.out.ext ((Ext.refl w1).alloc _)) (by simp)).mono ?_
  rintro e w2 ⟨A2, c2, rfl, hc2, hR2, hS2, hg2, hz2, hbl2⟩
  rw [World.size_alloc] at hz2
  have HS2 := Lib.hid (show IsWs w2 r S (t) from hS2)
  obtain ⟨b2, off2, rfl, hcc⟩ := hR2 (by simp [vals])
  have h0 : w2.cell? ⟨b2, off2, none⟩ = some (.int .u8 (p : Int)) := hcc 0 _ rfl
  have h1 : w2.cell? ⟨b2, off2 + 1, none⟩ = some (.int .u8 (k : Int)) := hcc 1 _ rfl
  obtain ⟨hbr, hbS⟩ := hbl2 (by simp) _ rfl
  have hbr : b2 ≠ r := hbr
  have hbS : b2 < S := hbS
  have HGA := Lib.hid (World.grown_trans (HGB.out _) hg2)
  clear hcc hR2 hS2 hg2 HS HG hbl2 hc0
  have hp32 : decide ((p : Int) < 32) = false := by simp; omega
  go_wp2_with fail
  refine (must_no _ _).mono ?_
  rintro e w' ⟨rfl, rfl⟩
  exact ⟨rfl, rfl, HGA.out⟩

set_option maxHeartbeats 2000000 in
set_option maxRecDepth 100000 in
theorem call4_key (w : World) (r S : Nat) (p k : Nat) (t : List Nat) (_hSw : S ≤ w.heap.size) (hp : p < 32) (hk : k < 256) (hlen : t.length < k) (h : IsWs w r S (4 :: p :: k :: t)) :
    Calls Try.prog 78 #[.pointer (some ⟨r, 0, none⟩)] w (WrongR w r) := by
  have hr := h.lt
  have H := Lib.hid (fun o : Obj => h.ext ((Ext.refl w).alloc o)); clear h
  go_enter Try.func78, Try.ntmps78
  go_wp2_with fail
  refine (wtake_ok _ r S 1 _ (H.out _) (by simp)).mono ?_
  rintro e w1 ⟨A, c, rfl, hc, hR, hS, hg, hz, hbl⟩
  obtain ⟨b, off, rfl, hc0⟩ := head_cell hR
  have HS := Lib.hid (show IsWs w1 r S (p :: k :: t) from hS); have HG := Lib.hid hg
  rw [World.size_alloc] at hz
  clear hR hS hg hbl
  have HGB := Lib.hid (fun o : Obj => grown_alloc (World.grown_trans (grown_none ((Ext.refl w).alloc (.cells #[.int .u8 0, .int .i64 0, .slice none 0 0, .int .i64 0] 63)) (some r)) HG.out) o)
  go_wp2_with fail
  refine (wtake_ok _ r S 2 _ (HS.out.ext ((Ext.refl w1).alloc _)) (by simp)).mono ?_
  rintro e w2 ⟨A2, c2, rfl, hc2, hR2, hS2, hg2, hz2, hbl2⟩
  rw [World.size_alloc] at hz2
  have HS2 := Lib.hid (show IsWs w2 r S (t) from hS2)
  obtain ⟨b2, off2, rfl, hcc⟩ := hR2 (by simp [vals])
  have h0 : w2.cell? ⟨b2, off2, none⟩ = some (.int .u8 (p : Int)) := hcc 0 _ rfl
  have h1 : w2.cell? ⟨b2, off2 + 1, none⟩ = some (.int .u8 (k : Int)) := hcc 1 _ rfl
  obtain ⟨hbr, hbS⟩ := hbl2 (by simp) _ rfl
  have hbr : b2 ≠ r := hbr
  have hbS : b2 < S := hbS
  have HGA := Lib.hid (World.grown_trans (HGB.out _) hg2)
  clear hcc hR2 hS2 hg2 HS HG hbl2 hc0
  have hp32 : decide ((p : Int) < 32) = true := by simp; omega
  go_wp2_with fail
  refine (must_ok _ _).mono ?_
  rintro e w' ⟨rfl, rfl⟩
  have C3 := Lib.hid (wtake_no w2.drew r S k _ (show IsWs w2.drew r S t from HS2.out) hlen)
  have w1p : IntKind.i64.wrap (p : Int) = (p : Int) := by rw [IntKind.wrap_i64]; omega
  have w1k : IntKind.i64.wrap (k : Int) = (k : Int) := by rw [IntKind.wrap_i64]; omega
  have hfin : w.grownBy w2.drew (some r) := grown_drew HGA.out
  go_upto_region 13 with fail
  go_region_with (go_at_call 81; refine C3.out.mono ?_; rintro e w3 ⟨rfl, rfl⟩; refine over_any (w := w2) ⟨rfl, rfl, hfin⟩ ?_)
  all_goals exact trivial

set_option maxHeartbeats 2000000 in
set_option maxRecDepth 100000 in
theorem call1_num (w : World) (r S : Nat) (p k : Nat) (xs u : List Nat) (_hSw : S ≤ w.heap.size) (hp : p < 32) (hk : k < 256) (hxk : xs.length = k) (hub : ∀ x ∈ u, x < 256) (hno : ¬ (8 ≤ u.length ∧ numB (u.take 8) ≤ 4611686018427387903)) (h : IsWs w r S (1 :: p :: k :: (xs ++ u))) :
    Calls Try.prog 78 #[.pointer (some ⟨r, 0, none⟩)] w (WrongR w r) := by
  have hr := h.lt
  have H := Lib.hid (fun o : Obj => h.ext ((Ext.refl w).alloc o)); clear h
  have Hk := Lib.hid hxk; have Hub := Lib.hid hub; have Hno := Lib.hid hno; clear hxk hub hno
  go_enter Try.func78, Try.ntmps78
  go_wp2_with fail
  refine (wtake_ok _ r S 1 _ (H.out _) (by simp)).mono ?_
  rintro e w1 ⟨A, c, rfl, hc, hR, hS, hg, hz, hbl⟩
  obtain ⟨b, off, rfl, hc0⟩ := head_cell hR
  have HS := Lib.hid (show IsWs w1 r S (p :: k :: (xs ++ u)) from hS); have HG := Lib.hid hg
  rw [World.size_alloc] at hz
  clear hR hS hg hbl
  have HGB := Lib.hid (fun o : Obj => grown_alloc (World.grown_trans (grown_none ((Ext.refl w).alloc (.cells #[.int .u8 0, .int .i64 0, .slice none 0 0, .int .i64 0] 63)) (some r)) HG.out) o)
  go_wp2_with fail
  refine (wtake_ok _ r S 2 _ (HS.out.ext ((Ext.refl w1).alloc _)) (by simp)).mono ?_
  rintro e w2 ⟨A2, c2, rfl, hc2, hR2, hS2, hg2, hz2, hbl2⟩
  rw [World.size_alloc] at hz2
  have HS2 := Lib.hid (show IsWs w2 r S (xs ++ u) from hS2)
  obtain ⟨b2, off2, rfl, hcc⟩ := hR2 (by simp [vals])
  have h0 : w2.cell? ⟨b2, off2, none⟩ = some (.int .u8 (p : Int)) := hcc 0 _ rfl
  have h1 : w2.cell? ⟨b2, off2 + 1, none⟩ = some (.int .u8 (k : Int)) := hcc 1 _ rfl
  obtain ⟨hbr, hbS⟩ := hbl2 (by simp) _ rfl
  have hbr : b2 ≠ r := hbr
  have hbS : b2 < S := hbS
  have HGA := Lib.hid (World.grown_trans (HGB.out _) hg2)
  have K3 := Lib.hid (blk_grown (blk_new w1 _) hg2 (by omega))
  clear hcc hR2 hS2 hg2 HS HG hbl2 hc0
  have hp32 : decide ((p : Int) < 32) = true := by simp; omega
  go_wp2_with fail
  refine (must_ok _ _).mono ?_
  rintro e w' ⟨rfl, rfl⟩
  have hne1 : b2 ≠ w1.heap.size := by omega
  have hk47 : k ≤ 140737488355328 := by omega
  have hner : w1.heap.size ≠ r := by omega
  have w1p : IntKind.i64.wrap (p : Int) = (p : Int) := by rw [IntKind.wrap_i64]; omega
  have w1k : IntKind.i64.wrap (k : Int) = (k : Int) := by rw [IntKind.wrap_i64]; omega
  have C3 := Lib.hid (wtake_ok w2.drew r S k _ (show IsWs w2.drew r S (xs ++ u) from HS2.out) (by rw [List.length_append, Hk.out]; omega))
  go_upto_region 13 with fail
  go_cut [4] (fun _ wd => (∃ A4 c4, wd.heap[w1.heap.size]? = some (.cells #[.int .u8 1, .int .i64 (p : Int), .slice A4 k c4, .int .i64 0] 63 (0, 0))) ∧ IsWs wd r S u ∧ w.grownBy wd (some r))
  case first =>
    go_region_held3 (fun w' => w'.cell? ⟨b2, off2, none⟩ = some (.int .u8 (p : Int)) ∧ w'.cell? ⟨b2, off2 + 1, none⟩ = some (.int .u8 (k : Int)))
      (((try go_split_ands); refine ⟨?_, ?_⟩ <;> first | assumption | exact cell_otherD (by assumption) hne1 | exact cell_other (by assumption) hne1))
      (first
        | (go_at_call 81; refine C3.out.mono ?_; rintro e w3 ⟨A3, c3, rfl, hc3, hR3, hS3, hg3, hz3, _⟩; have s0 : w3.cell? ⟨b2, off2, none⟩ = some (.int .u8 (p : Int)) := (hg3.cell_far ⟨b2, off2, none⟩ (World.block_lt_of_cell? w2 _ h0) (fun e => hbr (by injection e))).trans h0; have s1 : w3.cell? ⟨b2, off2 + 1, none⟩ = some (.int .u8 (k : Int)) := (hg3.cell_far ⟨b2, off2 + 1, none⟩ (World.block_lt_of_cell? w2 _ h1) (fun e => hbr (by injection e))).trans h1; rw [List.take_left' Hk.out] at hR3; rw [List.drop_left' Hk.out] at hS3; have HR3 := Lib.hid hR3; have HS3 := Lib.hid hS3; have HG3 := Lib.hid hg3; clear hR3 hS3 hg3)
        | (go_at_call 61; refine (clone_any A3 k c3 xs w3 Hk.out hk47 HR3.out).mono ?_; rintro e w4 ⟨A4, c4, rfl, hown4, hy4⟩; rw [Hk.out] at hown4 ⊢; have t0 := ext_cell hy4 s0; have t1 := ext_cell hy4 s1; have KC4 := Lib.hid (blk_ext (blk_grown (show w2.drew.heap[w1.heap.size]? = _ from K3.out) HG3.out hner) hy4); have u1 := blk_cell KC4.out 1; have u2 := blk_cell KC4.out 2; have f1 := blk_frozen KC4.out 1; have f2 := blk_frozen KC4.out 2; have Hy4 := Lib.hid hy4; clear hown4 hy4))
    all_goals
      go_wp2_with fail
      go_meet
      have hG := grown_setCell (grown_set w4 w1.heap.size 1 (.int .i64 (p : Int))) 2 (.slice A4 k c4)
      have hG4 := grown_ext (World.grown_trans HGA.out (grown_undrew HG3.out)) Hy4.out
      exact ⟨⟨A4, c4, blk_set (blk_set KC4.out 1 _) 2 _⟩, (HS3.out.ext Hy4.out).grown hG (fun k hk => by injection hk with hk; omega), grown_new hG4 hG (by omega)⟩
  case rest =>
    obtain ⟨⟨A4, c4, hC⟩, hSx, hGx⟩ := hcut
    have KC := Lib.hid hC; have HSx := Lib.hid hSx; have HGx := Lib.hid hGx
    have g0 := blk_cell KC.out 0
    clear hC hSx hGx h0 h1
    have C5 := Lib.hid (wnumber_any wc r S u Hub.out HSx.out)
    go_wp2_with fail
    refine C5.out.mono ?_
    rintro e w5 ⟨hg5, hz5, hh⟩
    rcases hh with ⟨h5, h6, _, _⟩ | ⟨_, rfl⟩
    · exact absurd ⟨h5, h6⟩ Hno.out
    · exact ⟨rfl, rfl, World.grown_trans HGx.out hg5⟩
end Go.Proofs.Ythkdjjfnmlemdaa
