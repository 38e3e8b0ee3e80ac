/- wire.ReadReply's closure: bytes that are no reply's. -/
import Derived.Test.YtkebkhgjoiiapaaRepR
namespace Go.Proofs.Ytkebkhgjoiiapaa
open Go.RowKit

theorem wnumber_wrong (w : World) (r S : Nat) (zs : List Nat) (hb : ∀ x ∈ zs, x < 256) (h : IsWs w r S zs) (hno : ¬ (8 ≤ zs.length ∧ numB (zs.take 8) ≤ 4611686018427387903)) :
    Calls Try.prog 77 #[.pointer (some ⟨r, 0, none⟩)] w (WrongR w r) := by
  refine (wnumber_any w r S zs hb h).mono ?_
  rintro e w' ⟨hg, _, hh⟩
  rcases hh with ⟨h8, hN, _⟩ | ⟨_, he⟩
  · exact absurd ⟨h8, hN⟩ hno
  · exact ⟨he, hg⟩
theorem byRep_few (w : World) (r S g : Nat) (z : List Nat) (hlen : z.length < 2) (h : IsWs w r S z) :
    Calls Try.prog 74 #[.pointer (some ⟨r, 0, none⟩), .pointer (some ⟨g, 0, none⟩)] w (WrongR w r) := by
  have H := Lib.hid h; clear h
  go_enter Try.func74, Try.ntmps74
  go_wp2_with fail
  refine (wtake_no _ r S 2 _ H.out hlen).mono ?_
  rintro e w' ⟨rfl, rfl⟩
  exact ⟨rfl, rfl, World.grownBy.refl _ _⟩

set_option maxHeartbeats 2000000 in
set_option maxRecDepth 100000 in
theorem byRep_head (w : World) (r S g e x1 : Nat) (z : List Nat) (he : e < 256) (hx : x1 < 256) (hbad : 16 < e ∨ 1 < x1) (h : IsWs w r S (e :: x1 :: z)) :
    Calls Try.prog 74 #[.pointer (some ⟨r, 0, none⟩), .pointer (some ⟨g, 0, none⟩)] w (WrongR w r) := by
  have H := Lib.hid h; clear h
  go_enter Try.func74, Try.ntmps74
  go_wp2_with fail
  refine (wtake_ok _ r S 2 _ H.out (by simp)).mono ?_
  rintro e' w2 ⟨A2, c2, rfl, hc2, hR2, hS2, hg2, hz2, hbl2⟩
  obtain ⟨b2, off2, rfl, hcc⟩ := hR2 (by simp [vals])
  have h0 : w2.cell? ⟨b2, off2, none⟩ = some (.int .u8 (e : Int)) := hcc 0 _ rfl
  have h1 : w2.cell? ⟨b2, off2 + 1, none⟩ = some (.int .u8 (x1 : Int)) := hcc 1 _ rfl
  obtain ⟨hbr, hbS⟩ := hbl2 (by simp) _ rfl
  have hbr : b2 ≠ r := hbr
  have HG2 := Lib.hid hg2
  have hw : IntKind.i64.wrap (e : Int) = (e : Int) := by rw [IntKind.wrap_i64]; omega
  clear hcc hR2 hS2 hg2 hbl2 H
  by_cases h16 : 16 < e
  · have hd1 : decide ((e : Int) ≤ 16) = false := by simp; omega
    clear hbad
    go_wp2_with fail
    refine (must_no _ _).mono ?_
    rintro e' w' ⟨rfl, rfl⟩
    exact ⟨rfl, rfl, HG2.out⟩
  · have hd1 : decide ((e : Int) ≤ 16) = true := by simp; omega
    have hd2 : decide ((x1 : Int) ≤ 1) = false := by simp; omega
    clear hbad h16
    go_wp2_with fail
    refine (must_no _ _).mono ?_
    rintro e' w' ⟨rfl, rfl⟩
    exact ⟨rfl, rfl, HG2.out⟩

set_option maxHeartbeats 4000000 in
set_option maxRecDepth 100000 in
theorem byRep_num0 (w : World) (r S g e x1 : Nat) (u : List Nat) (he : e ≤ 16) (hx1' : x1 ≤ 1) (hub : ∀ x ∈ u, x < 256) (hno : ¬ (8 ≤ u.length ∧ numB (u.take 8) ≤ 4611686018427387903))
    (h : IsWs w r S (e :: x1 :: (u))) :
    Calls Try.prog 74 #[.pointer (some ⟨r, 0, none⟩), .pointer (some ⟨g, 0, none⟩)] w (WrongR w r) := by
  have H := Lib.hid h; have Hno := Lib.hid hno; have Hub := Lib.hid hub; clear h hno hub
  go_enter Try.func74, Try.ntmps74
  go_wp2_with fail
  refine (wtake_ok _ r S 2 _ H.out (by simp)).mono ?_
  rintro e' w2 ⟨A2, c2, rfl, hc2, hR2, hS2, hg2, hz2, hbl2⟩
  obtain ⟨b2, off2, rfl, hcc⟩ := hR2 (by simp [vals])
  have h0 : w2.cell? ⟨b2, off2, none⟩ = some (.int .u8 (e : Int)) := hcc 0 _ rfl
  have h1 : w2.cell? ⟨b2, off2 + 1, none⟩ = some (.int .u8 (x1 : Int)) := hcc 1 _ rfl
  obtain ⟨hbr, hbS⟩ := hbl2 (by simp) _ rfl
  have hbr : b2 ≠ r := hbr
  have HG2 := Lib.hid hg2
  have hw : IntKind.i64.wrap (e : Int) = (e : Int) := by rw [IntKind.wrap_i64]; omega
  have hS0 : IsWs w2.drew r S (u) := hS2
  have HS0 := Lib.hid hS0
  have hd1 : decide ((e : Int) ≤ 16) = true := by simp; omega
  have hd2 : decide ((x1 : Int) ≤ 1) = true := by simp; omega
  clear hcc hR2 hS2 hS0 hg2 hbl2 H
  go_wp2_with fail
  refine (must_ok _ _).mono ?_
  rintro e' w' ⟨rfl, rfl⟩
  have far : ∀ (a b : World) (o : Nat) (v : Value), a.grownBy b (some r) → a.cell? ⟨b2, o, none⟩ = some v → b.cell? ⟨b2, o, none⟩ = some v := fun a b o v hG hv => (hG.cell_far ⟨b2, o, none⟩ (World.block_lt_of_cell? a _ hv) (fun q => hbr (by injection q))).trans hv
  have Far := Lib.hid far; clear far
  have p0 : w2.drew.cell? ⟨b2, off2, none⟩ = some (.int .u8 (e : Int)) := h0
  have p1 : w2.drew.cell? ⟨b2, off2 + 1, none⟩ = some (.int .u8 (x1 : Int)) := h1
  go_upto_region 2 with fail
  go_region_with (first
    | (go_at_call 77; (with_reducible refine (wnumber_wrong w2.drew r S u Hub.out HS0.out Hno.out).mono ?_); rintro ez vz ⟨rfl, hgz⟩; refine over_any (w := w2) ⟨rfl, rfl, World.grown_trans HG2.out (grown_undrew hgz)⟩ ?_))
  all_goals exact trivial

set_option maxHeartbeats 4000000 in
set_option maxRecDepth 100000 in
theorem byRep_num1 (w : World) (r S g e x1 l : Nat) (u : List Nat) (he : e ≤ 16) (hx1' : x1 ≤ 1) (hl : l ≤ 4611686018427387903) (hub : ∀ x ∈ u, x < 256) (hno : ¬ (8 ≤ u.length ∧ numB (u.take 8) ≤ 4611686018427387903))
    (h : IsWs w r S (e :: x1 :: (wordB l 8 ++ (u)))) :
    Calls Try.prog 74 #[.pointer (some ⟨r, 0, none⟩), .pointer (some ⟨g, 0, none⟩)] w (WrongR w r) := by
  have H := Lib.hid h; have Hno := Lib.hid hno; have Hub := Lib.hid hub; clear h hno hub
  go_enter Try.func74, Try.ntmps74
  go_wp2_with fail
  refine (wtake_ok _ r S 2 _ H.out (by simp)).mono ?_
  rintro e' w2 ⟨A2, c2, rfl, hc2, hR2, hS2, hg2, hz2, hbl2⟩
  obtain ⟨b2, off2, rfl, hcc⟩ := hR2 (by simp [vals])
  have h0 : w2.cell? ⟨b2, off2, none⟩ = some (.int .u8 (e : Int)) := hcc 0 _ rfl
  have h1 : w2.cell? ⟨b2, off2 + 1, none⟩ = some (.int .u8 (x1 : Int)) := hcc 1 _ rfl
  obtain ⟨hbr, hbS⟩ := hbl2 (by simp) _ rfl
  have hbr : b2 ≠ r := hbr
  have HG2 := Lib.hid hg2
  have hw : IntKind.i64.wrap (e : Int) = (e : Int) := by rw [IntKind.wrap_i64]; omega
  have hS0 : IsWs w2.drew r S (wordB l 8 ++ (u)) := hS2
  have HS0 := Lib.hid hS0
  have hd1 : decide ((e : Int) ≤ 16) = true := by simp; omega
  have hd2 : decide ((x1 : Int) ≤ 1) = true := by simp; omega
  clear hcc hR2 hS2 hS0 hg2 hbl2 H
  go_wp2_with fail
  refine (must_ok _ _).mono ?_
  rintro e' w' ⟨rfl, rfl⟩
  have far : ∀ (a b : World) (o : Nat) (v : Value), a.grownBy b (some r) → a.cell? ⟨b2, o, none⟩ = some v → b.cell? ⟨b2, o, none⟩ = some v := fun a b o v hG hv => (hG.cell_far ⟨b2, o, none⟩ (World.block_lt_of_cell? a _ hv) (fun q => hbr (by injection q))).trans hv
  have Far := Lib.hid far; clear far
  have p0 : w2.drew.cell? ⟨b2, off2, none⟩ = some (.int .u8 (e : Int)) := h0
  have p1 : w2.drew.cell? ⟨b2, off2 + 1, none⟩ = some (.int .u8 (x1 : Int)) := h1
  go_upto_region 2 with fail
  go_region_with (first
    | (go_at_call 77; (with_reducible refine (wnum_word w2.drew r S l _ hl Hub.out HS0.out).mono ?_); rintro e1 v1 ⟨rfl, hs1, hg1⟩; have a1 := Far.out _ _ _ _ hg1 p0; have b1 := Far.out _ _ _ _ hg1 p1; have HS1 := Lib.hid hs1; have HGG1 := Lib.hid (World.grown_trans HG2.out (grown_undrew hg1)); clear hs1 hg1)
    | (go_at_call 77; (with_reducible refine (wnumber_wrong v1 r S u Hub.out HS1.out Hno.out).mono ?_); rintro ez vz ⟨rfl, hgz⟩; refine over_any (w := w2) ⟨rfl, rfl, World.grown_trans HGG1.out hgz⟩ ?_))
  all_goals exact trivial

end Go.Proofs.Ytkebkhgjoiiapaa
