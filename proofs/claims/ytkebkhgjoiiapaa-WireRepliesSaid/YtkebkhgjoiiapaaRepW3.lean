/- wire.ReadReply's closure: the fourth number is wrong. -/
import Derived.Test.YtkebkhgjoiiapaaRepW
namespace Go.Proofs.Ytkebkhgjoiiapaa
open Go.RowKit

set_option maxHeartbeats 40000000 in
set_option maxRecDepth 100000 in
theorem byRep_num3 (w : World) (r S g e x1 l t s : Nat) (u : List Nat) (he : e ≤ 16) (hx1' : x1 ≤ 1) (hl : l ≤ 4611686018427387903) (ht : t ≤ 4611686018427387903) (hs : s ≤ 4611686018427387903) (hub : ∀ x ∈ u, x < 256) (hno : ¬ (8 ≤ u.length ∧ numB (u.take 8) ≤ 4611686018427387903))
    (h : IsWs w r S (e :: x1 :: (wordB l 8 ++ (wordB t 8 ++ (wordB s 8 ++ (u)))))) :
    Calls Try.prog 74 #[.pointer (some ⟨r, 0, none⟩), .pointer (some ⟨g, 0, none⟩)] w (WrongR w r) := by
  have H := Lib.hid h; have Hno := Lib.hid hno; have Hub := Lib.hid hub; clear h hno hub
  have B2 := Lib.hid (show ∀ x ∈ (wordB s 8 ++ (u)), x < 256 from fun x hx => by
    rcases List.mem_append.1 hx with hx | hx
    · exact wordB_lt _ _ x hx
    · exact Hub.out x hx)
  have B1 := Lib.hid (show ∀ x ∈ (wordB t 8 ++ (wordB s 8 ++ (u))), x < 256 from fun x hx => by
    rcases List.mem_append.1 hx with hx | hx
    · exact wordB_lt _ _ x hx
    · exact B2.out x hx)
  go_enter Try.func74, Try.ntmps74
  go_wp2_with fail
  refine (wtake_ok _ r S 2 _ H.out (by simp)).mono ?_
  rintro e' w2 ⟨A2, c2, rfl, hc2, hR2, hS2, hg2, hz2, hbl2⟩
  obtain ⟨b2, off2, rfl, hcc⟩ := hR2 (by simp [vals])
  have h0 : w2.cell? ⟨b2, off2, none⟩ = some (.int .u8 (e : Int)) := hcc 0 _ rfl
  have h1 : w2.cell? ⟨b2, off2 + 1, none⟩ = some (.int .u8 (x1 : Int)) := hcc 1 _ rfl
  obtain ⟨hbr, hbS⟩ := hbl2 (by simp) _ rfl
  have hbr : b2 ≠ r := hbr
  have HG2 := Lib.hid hg2
  have hw : IntKind.i64.wrap (e : Int) = (e : Int) := by rw [IntKind.wrap_i64]; omega
  have hS0 : IsWs w2.drew r S (wordB l 8 ++ (wordB t 8 ++ (wordB s 8 ++ (u)))) := hS2
  have HS0 := Lib.hid hS0
  have hd1 : decide ((e : Int) ≤ 16) = true := by simp; omega
  have hd2 : decide ((x1 : Int) ≤ 1) = true := by simp; omega
  clear hcc hR2 hS2 hS0 hg2 hbl2 H
  go_wp2_with fail
  refine (must_ok _ _).mono ?_
  rintro e' w' ⟨rfl, rfl⟩
  have far : ∀ (a b : World) (o : Nat) (v : Value), a.grownBy b (some r) → a.cell? ⟨b2, o, none⟩ = some v → b.cell? ⟨b2, o, none⟩ = some v := fun a b o v hG hv => (hG.cell_far ⟨b2, o, none⟩ (World.block_lt_of_cell? a _ hv) (fun q => hbr (by injection q))).trans hv
  have Far := Lib.hid far; clear far
  have p0 : w2.drew.cell? ⟨b2, off2, none⟩ = some (.int .u8 (e : Int)) := h0
  have p1 : w2.drew.cell? ⟨b2, off2 + 1, none⟩ = some (.int .u8 (x1 : Int)) := h1
  go_upto_region 2 with fail
  go_region_with (first
    | (go_at_call 77; (with_reducible refine (wnum_word w2.drew r S l _ hl B1.out HS0.out).mono ?_); rintro e1 v1 ⟨rfl, hs1, hg1⟩; have a1 := Far.out _ _ _ _ hg1 p0; have b1 := Far.out _ _ _ _ hg1 p1; have HS1 := Lib.hid hs1; have HGG1 := Lib.hid (World.grown_trans HG2.out (grown_undrew hg1)); clear hs1 hg1)
    | (go_at_call 77; (with_reducible refine (wnum_word v1 r S t _ ht B2.out HS1.out).mono ?_); rintro e2 v2 ⟨rfl, hs2, hg2⟩; have a2 := Far.out _ _ _ _ hg2 a1; have b2 := Far.out _ _ _ _ hg2 b1; have HS2 := Lib.hid hs2; have HGG2 := Lib.hid (World.grown_trans HGG1.out hg2); clear hs2 hg2)
    | (go_at_call 77; (with_reducible refine (wnum_word v2 r S s _ hs Hub.out HS2.out).mono ?_); rintro e3 v3 ⟨rfl, hs3, hg3⟩; have a3 := Far.out _ _ _ _ hg3 a2; have b3 := Far.out _ _ _ _ hg3 b2; have HS3 := Lib.hid hs3; have HGG3 := Lib.hid (World.grown_trans HGG2.out hg3); clear hs3 hg3)
    | (go_at_call 77; (with_reducible refine (wnumber_wrong v3 r S u Hub.out HS3.out Hno.out).mono ?_); rintro ez vz ⟨rfl, hgz⟩; refine over_any (w := w2) ⟨rfl, rfl, World.grown_trans HGG3.out hgz⟩ ?_))
  all_goals exact trivial

end Go.Proofs.Ytkebkhgjoiiapaa
