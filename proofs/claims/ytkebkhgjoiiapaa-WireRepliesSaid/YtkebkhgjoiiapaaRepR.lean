/- wire.ReadReply of a right reply's bytes. -/
import Derived.Test.YtkebkhgjoiiapaaReadP
import Derived.Test.YtkebkhgjoiiapaaReply
import Derived.Test.YtkebkhgjoiiapaaReadQ
namespace Go.Proofs.Ytkebkhgjoiiapaa
open Go.RowKit

theorem wnum_word (w : World) (r S v : Nat) (rest : List Nat) (hv : v ≤ 4611686018427387903) (hb : ∀ x ∈ rest, x < 256) (h : IsWs w r S (wordB v 8 ++ rest)) :
    Calls Try.prog 77 #[.pointer (some ⟨r, 0, none⟩)] w fun e w' => e = .returned (.int .i64 (v : Int)) ∧ IsWs w' r S rest ∧ w.grownBy w' (some r) := by
  have hw8 : (wordB v 8 ++ rest).take 8 = wordB v 8 := List.take_left' (wordB_len v 8)
  have hd8 : (wordB v 8 ++ rest).drop 8 = rest := List.drop_left' (wordB_len v 8)
  have hn8 : numB (wordB v 8) = v := by rw [numB_wordB]; exact Nat.mod_eq_of_lt (Nat.lt_of_le_of_lt hv (by decide))
  refine (wnumber_any w r S _ (fun x hx => ?_) h).mono ?_
  · rcases List.mem_append.1 hx with hx | hx
    · exact wordB_lt _ _ x hx
    · exact hb x hx
  · rintro e w' ⟨hg, _, hh⟩
    rw [hw8, hd8, hn8] at hh
    rcases hh with ⟨_, _, he, hS⟩ | ⟨hno, _⟩
    · exact ⟨he, hS, hg⟩
    · exact absurd ⟨by rw [List.length_append, wordB_len]; omega, hv⟩ hno
theorem drew_cell' {w : World} {p : Addr} {v : Value} (h : w.cell? p = some v) : w.drew.cell? p = some v := h
theorem grown6 (w : World) (g : Nat) (a b c d x y : Value) : w.grownBy ((((((w.setCell ⟨g, 0, none⟩ a).setCell ⟨g, 1, none⟩ b).setCell ⟨g, 2, none⟩ c).setCell ⟨g, 3, none⟩ d).setCell ⟨g, 4, none⟩ x).setCell ⟨g, 5, none⟩ y) (some g) :=
  grown_setCell (grown_setCell (grown_setCell (grown_setCell (grown_setCell (grown_set w g 0 a) 1 b) 2 c) 3 d) 4 x) 5 y
theorem cell6 {w : World} {p : Addr} {v : Value} {g : Nat} {a b c d x y : Value} (h : w.cell? p = some v) (hne : p.block ≠ g) : ((((((w.setCell ⟨g, 0, none⟩ a).setCell ⟨g, 1, none⟩ b).setCell ⟨g, 2, none⟩ c).setCell ⟨g, 3, none⟩ d).setCell ⟨g, 4, none⟩ x).setCell ⟨g, 5, none⟩ y).cell? p = some v := by
  have h1 := (grown6 w g a b c d x y).block p.block (World.block_lt_of_cell? w p h) (fun e => hne (by injection e))
  exact (World.cell?_of_block h1).trans h
theorem row6 {w : World} {g : Nat} {a0 b0 c0 d0 x0 y0 : Value} {t : TypeId} (h : w.heap[g]? = some (.cells #[a0, b0, c0, d0, x0, y0] t (0, 0))) (a b c d x y : Value) : ((((((w.setCell ⟨g, 0, none⟩ a).setCell ⟨g, 1, none⟩ b).setCell ⟨g, 2, none⟩ c).setCell ⟨g, 3, none⟩ d).setCell ⟨g, 4, none⟩ x).setCell ⟨g, 5, none⟩ y).heap[g]? = some (.cells #[a, b, c, d, x, y] t (0, 0)) :=
  blk_set (blk_set (blk_set (blk_set (blk_set (blk_set h 0 a) 1 b) 2 c) 3 d) 4 x) 5 y
abbrev repZ : Array Value := #[.int .i64 0, .bool false, .int .i64 0, .int .i64 0, .int .i64 0, .int .i64 0]
set_option maxHeartbeats 4000000 in
set_option maxRecDepth 100000 in
theorem byRep (w : World) (r S g e l t s n : Nat) (gb : Bool) (_hS : S ≤ w.heap.size) (he : e ≤ 16) (hl : l ≤ 4611686018427387903) (ht : t ≤ 4611686018427387903) (hs : s ≤ 4611686018427387903) (hn : n ≤ 4611686018427387903)
    (rest : List Nat) (hrb : ∀ x ∈ rest, x < 256) (h : IsWs w r S (repB e gb [l, t, s, n] ++ rest)) (hg : S ≤ g) (_hgw : g < w.heap.size) (hgr : g ≠ r) (hc : w.heap[g]? = some (.cells repZ 82 (0, 0))) :
    Calls Try.prog 74 #[.pointer (some ⟨r, 0, none⟩), .pointer (some ⟨g, 0, none⟩)] w (ByR 82 (fun _ _ => #[.int .i64 (e : Int), .bool gb, .int .i64 (l : Int), .int .i64 (t : Int), .int .i64 (s : Int), .int .i64 (n : Int)]) [] rest r S g w) := by
  have e1 : repB e gb [l, t, s, n] ++ rest = e :: oneIf gb :: (wordB l 8 ++ (wordB t 8 ++ (wordB s 8 ++ (wordB n 8 ++ rest)))) := by simp [repB, words]
  rw [e1] at h
  have H := Lib.hid h; have Hc := Lib.hid hc
  obtain ⟨x1, hx1, hx1'⟩ : ∃ x1 : Nat, x1 = oneIf gb ∧ x1 ≤ 1 := ⟨_, rfl, by unfold oneIf; split <;> omega⟩
  rw [← hx1] at H
  have hbq : ((x1 : Int) == 1) = gb := by rw [hx1]; cases gb <;> rfl
  have Hbq := Lib.hid hbq
  clear h hc e1 hx1 hbq
  have b4 : ∀ x ∈ rest, x < 256 := hrb
  have b3 : ∀ x ∈ wordB n 8 ++ rest, x < 256 := fun x hx => by
    rcases List.mem_append.1 hx with hx | hx
    · exact wordB_lt _ _ x hx
    · exact b4 x hx
  have b2 : ∀ x ∈ wordB s 8 ++ (wordB n 8 ++ rest), x < 256 := fun x hx => by
    rcases List.mem_append.1 hx with hx | hx
    · exact wordB_lt _ _ x hx
    · exact b3 x hx
  have b1 : ∀ x ∈ wordB t 8 ++ (wordB s 8 ++ (wordB n 8 ++ rest)), x < 256 := fun x hx => by
    rcases List.mem_append.1 hx with hx | hx
    · exact wordB_lt _ _ x hx
    · exact b2 x hx
  have B1 := Lib.hid b1; have B2 := Lib.hid b2; have B3 := Lib.hid b3; have B4 := Lib.hid b4; clear b1 b2 b3 b4
  go_enter Try.func74, Try.ntmps74
  go_wp2_with fail
  refine (wtake_ok _ r S 2 _ H.out (by simp)).mono ?_
  rintro e' w2 ⟨A2, c2, rfl, hc2, hR2, hS2, hg2, hz2, hbl2⟩
  obtain ⟨b2, off2, rfl, hcc⟩ := hR2 (by simp [vals])
  have h0 : w2.cell? ⟨b2, off2, none⟩ = some (.int .u8 (e : Int)) := hcc 0 _ rfl
  have h1 : w2.cell? ⟨b2, off2 + 1, none⟩ = some (.int .u8 (x1 : Int)) := hcc 1 _ rfl
  obtain ⟨hbr, hbS⟩ := hbl2 (by simp) _ rfl
  have hbr : b2 ≠ r := hbr
  have hbg : b2 ≠ g := by have : b2 < S := hbS; omega
  have HS2 := Lib.hid (show IsWs w2 r S (wordB l 8 ++ (wordB t 8 ++ (wordB s 8 ++ (wordB n 8 ++ rest)))) from hS2)
  have HG2 := Lib.hid hg2
  have K2 := Lib.hid (blk_grown Hc.out hg2 hgr)
  have hw : IntKind.i64.wrap (e : Int) = (e : Int) := by rw [IntKind.wrap_i64]; omega
  have hd1 : decide ((e : Int) ≤ 16) = true := by simp; omega
  have hd2 : decide ((x1 : Int) ≤ 1) = true := by simp; omega
  clear hcc hR2 hS2 hg2 hbl2 H Hc
  go_wp2_with fail
  refine (must_ok _ _).mono ?_
  rintro e' w' ⟨rfl, rfl⟩
  have hbq := Hbq.out
  have far : ∀ (a b : World) (o : Nat) (v : Value), a.grownBy b (some r) → a.cell? ⟨b2, o, none⟩ = some v → b.cell? ⟨b2, o, none⟩ = some v := fun a b o v hG hv => (hG.cell_far ⟨b2, o, none⟩ (World.block_lt_of_cell? a _ hv) (fun q => hbr (by injection q))).trans hv
  have Far := Lib.hid far; clear far
  have C1 := Lib.hid (wnum_word w2.drew r S l _ hl B1.out HS2.out)
  have h0d : w2.drew.cell? ⟨b2, off2, none⟩ = some (.int .u8 (e : Int)) := h0
  have h1d : w2.drew.cell? ⟨b2, off2 + 1, none⟩ = some (.int .u8 (x1 : Int)) := h1
  have H0d := Lib.hid h0d; have H1d := Lib.hid h1d; clear h0d h1d
  go_upto_region 2 with fail
  go_region_held3 (fun w' => w'.cell? ⟨b2, off2, none⟩ = some (.int .u8 (e : Int)) ∧ w'.cell? ⟨b2, off2 + 1, none⟩ = some (.int .u8 (x1 : Int)))
    (with_reducible (first | exact ⟨H0d.out, H1d.out⟩ | exact ⟨a0, a1⟩ | exact ⟨c0, c1⟩ | exact ⟨d0, d1⟩ | exact ⟨f0, f1⟩ | exact ⟨cell6 f0 hbg, cell6 f1 hbg⟩ | exact ⟨drew_cell' (cell6 f0 hbg), drew_cell' (cell6 f1 hbg)⟩))
    (first
      | (go_at_call 77; (with_reducible refine C1.out.mono ?_); rintro e1 v1 ⟨rfl, hs1, hg1⟩; have a0 := Far.out _ _ _ _ hg1 H0d.out; have a1 := Far.out _ _ _ _ hg1 H1d.out; have HS1 := Lib.hid hs1; have HG1 := Lib.hid hg1; clear hs1 hg1)
      | (go_at_call 77; (with_reducible refine (wnum_word v1 r S t _ ht B2.out HS1.out).mono ?_); rintro e2 v2 ⟨rfl, hs2, hg2⟩; have c0 := Far.out _ _ _ _ hg2 a0; have c1 := Far.out _ _ _ _ hg2 a1; have HSS2 := Lib.hid hs2; have HGG2 := Lib.hid hg2; clear hs2 hg2)
      | (go_at_call 77; (with_reducible refine (wnum_word v2 r S s _ hs B3.out HSS2.out).mono ?_); rintro e3 v3 ⟨rfl, hs3, hg3⟩; have d0 := Far.out _ _ _ _ hg3 c0; have d1 := Far.out _ _ _ _ hg3 c1; have HS3 := Lib.hid hs3; have HG3 := Lib.hid hg3; clear hs3 hg3)
      | (go_at_call 77; (with_reducible refine (wnum_word v3 r S n _ hn B4.out HS3.out).mono ?_); rintro e4 v4 ⟨rfl, hs4, hg4⟩; have f0 := Far.out _ _ _ _ hg4 d0; have f1 := Far.out _ _ _ _ hg4 d1; have HS4 := Lib.hid hs4; have HG4 := Lib.hid hg4; have hG := World.grown_trans (World.grown_trans (World.grown_trans (grown_undrew HG1.out) HGG2.out) HG3.out) hg4; have HGa := Lib.hid hG; have KC := Lib.hid (blk_grown K2.out hG hgr); have k0 := blk_cell KC.out 0; have k1 := blk_cell KC.out 1; have k2 := blk_cell KC.out 2; have k3 := blk_cell KC.out 3; have k4 := blk_cell KC.out 4; have k5 := blk_cell KC.out 5; have m0 := blk_frozen KC.out 0; have m1 := blk_frozen KC.out 1; have m2 := blk_frozen KC.out 2; have m3 := blk_frozen KC.out 3; have m4 := blk_frozen KC.out 4; have m5 := blk_frozen KC.out 5; clear hs4 hg4 hG))
  all_goals
    go_wp2_with fail
    go_end0
    have hz : v4.ownsRow w.heap.size 5 1 (.slice none 0 0) 0 (vals .u8 []) := World.ownsRow_nil _ _ _ _
    exact ⟨none, 0, v4, rfl, World.grown_trans HG2.out HGa.out, grown6 _ _ _ _ _ _ _ _, row6 KC.out _ _ _ _ _ _, World.ownsRow_nil _ _ _ _, HS4.out.grown (grown6 _ _ _ _ _ _ _ _) (fun k hk => by injection hk with hk; omega)⟩
end Go.Proofs.Ytkebkhgjoiiapaa
