/- the document's DocDecode. -/
import Derived.Test.YthkdjjfnmlemdaaTokF
import Derived.Deep.DeepCutAuto
import Derived.Deep.RegionWith
namespace Go.Proofs.Ythkdjjfnmlemdaa
open Go.RowKit

theorem refDecode_few (w : World) (A : Option Addr) (n c : Nat) (hn : n < 16) :
    Calls Try.prog 34 #[.slice A n c] w (RetE (.tuple #[tokZ, .int .i64 3]) w) := by
  go_enter Try.func34, Try.ntmps34
  go_wp2_with fail
  refine bodyPost_ret (ret_tok rfl rfl (heap_alloc_new w _)) rfl ?_
  exact ⟨rfl, (Ext.refl w).alloc _⟩
set_option maxHeartbeats 2000000 in
theorem refDecode_bad1 (w : World) (b off n c y2 y3 : Nat) (hn : 16 ≤ n) (hn' : n ≤ 4096) (hy2 : y2 < 256) (hy3 : y3 < 256)
    (c2 : w.cell? ⟨b, off + 2, none⟩ = some (.int .u8 (y2 : Int))) (c3 : w.cell? ⟨b, off + 3, none⟩ = some (.int .u8 (y3 : Int)))
    (h : 32 ≤ y2 ∨ n ≠ 4 + y3 + 12) :
    Calls Try.prog 34 #[.slice (some ⟨b, off, none⟩) n c] w (RetE (.tuple #[tokZ, .int .i64 3]) w) := by
  have d2 := cell_past c2; have d3 := cell_past c3
  clear c2 c3
  by_cases h1 : n = 4 + y3 + 12
  · have hne : ((n : Int) != 16 + (y3 : Int)) = false := by simp; omega
    have h2 : 32 ≤ y2 := by omega
    clear h h1
    go_enter Try.func34, Try.ntmps34
    go_wp2_with fail
    refine bodyPost_ret (ret_tok rfl rfl (heap_alloc_new w _)) rfl ?_
    exact ⟨rfl, (Ext.refl w).alloc _⟩
  · have hne : ((n : Int) != 16 + (y3 : Int)) = true := by simp; omega
    clear h h1
    go_enter Try.func34, Try.ntmps34
    go_wp2_with fail
    refine bodyPost_ret (ret_tok rfl rfl (heap_alloc_new w _)) rfl ?_
    exact ⟨rfl, (Ext.refl w).alloc _⟩

set_option maxHeartbeats 2000000 in
theorem refDecode_bad2 (w : World) (b off n c p k : Nat) (ys : List Nat) (hl : ys.length = n) (hb : ∀ x ∈ ys, x < 256) (hr : Rd w (some ⟨b, off, none⟩) (vals .u8 ys)) (hnc : n ≤ c) (hn : n = k + 16) (hk : k < 256) (hp : p < 32)
    (c2 : w.cell? ⟨b, off + 2, none⟩ = some (.int .u8 (p : Int))) (c3 : w.cell? ⟨b, off + 3, none⟩ = some (.int .u8 (k : Int)))
    (h : numB ((ys.drop (4 + k)).take 8) < 1 ∨ 4611686018427387903 < numB ((ys.drop (4 + k)).take 8)) :
    Calls Try.prog 34 #[.slice (some ⟨b, off, none⟩) n c] w (RetE (.tuple #[tokZ, .int .i64 3]) w) := by
  have d2 := cell_past c2; have d3 := cell_past c3
  clear c2 c3
  have hne : ((n : Int) != 16 + (k : Int)) = false := by simp; omega
  have n1 : k + 16 ≤ n := by omega
  have n2 : n ≤ k + 16 := by omega
  have n3 : ¬ c = 4 + k := by omega
  have r1 := rd_cut (zs := (ys.drop (4 + k)).take 8) hr (4 + k) 8 rfl
  have l1 : ((ys.drop (4 + k)).take 8).length = 8 := by rw [List.length_take, List.length_drop]; omega
  have b1 : ∀ x ∈ (ys.drop (4 + k)).take 8, x < 256 := fun x hx => hb x (List.mem_of_mem_drop (List.mem_of_mem_take hx))
  have C1 := Lib.hid (fun (o : Obj) => docNumber_any (w.alloc o) (some ⟨b, off + (4 + k), none⟩) 8 (c - (4 + k)) _ l1 (by omega) b1 (r1.alloc o))
  have hS := numB_lt_of _ b1 (by omega)
  generalize numB ((ys.drop (4 + k)).take 8) = s at *
  clear hl hb hr r1 l1 b1 hn
  have hcase : (decide ((s : Int) < 1) = true) ∨ (decide ((s : Int) < 1) = false ∧ decide (4611686018427387903 < (s : Int)) = true) := by
    by_cases h1 : s < 1
    · left; simp; omega
    · right; simp; omega
  clear h
  rcases hcase with q1 | ⟨q1, q2⟩
  all_goals
    go_enter Try.func34, Try.ntmps34
    go_wp2_with fail
    refine (C1.out _).mono ?_
    rintro e w1 ⟨rfl, rfl⟩
    go_wp2_with fail
    refine bodyPost_ret (ret_tok rfl rfl (heap_alloc_new w _)) rfl ?_
    exact ⟨rfl, (Ext.refl w).alloc _⟩

theorem own_row3 {w : World} {B g n c : Nat} {e : TypeId} {A : Option Addr} {xs : List Value} (h : w.ownsRow B e 1 (.slice A n c) n xs) (hg : g < B) (a b d : Value) : (((w.setCell ⟨g, 0, none⟩ a).setCell ⟨g, 1, none⟩ b).setCell ⟨g, 2, none⟩ d).ownsRow g e 1 (.slice A n c) n xs := by
  refine own_base (h.kept (grown_setCell (grown_setCell (grown_set w g 0 a) 1 b) 2 d) ?_) (Nat.le_of_lt hg)
  cases hA : (Value.slice A n c).ownBlock with
  | none => exact .inl rfl
  | some q => right; intro e; injection e with e; have := own_ge h q hA; omega
theorem ext_row3 {w w2 : World} {g : Nat} (h : Ext w w2) (hg : w.heap.size ≤ g) (a b d : Value) : Ext w (((w2.setCell ⟨g, 0, none⟩ a).setCell ⟨g, 1, none⟩ b).setCell ⟨g, 2, none⟩ d) :=
  ((h.setCell (p := ⟨g, 0, none⟩) hg a).setCell (p := ⟨g, 1, none⟩) hg b).setCell (p := ⟨g, 2, none⟩) hg d

def RetDec (p k s : Nat) (ys : List Nat) (w : World) (e : Ending) (w' : World) : Prop :=
  (tokB p ((ys.drop 4).take k) s = ys → RetTok p ((ys.drop 4).take k) s w e w') ∧ (tokB p ((ys.drop 4).take k) s ≠ ys → RetE (.tuple #[tokZ, .int .i64 3]) w e w')

set_option maxHeartbeats 4000000 in
theorem refDecode_mid (w : World) (b off n c p k : Nat) (ys : List Nat) (hl : ys.length = n) (hb : ∀ x ∈ ys, x < 256) (hr : Rd w (some ⟨b, off, none⟩) (vals .u8 ys)) (hnc : n ≤ c) (hn : n = k + 16) (hk : k < 256) (hp : p < 32)
    (c2 : w.cell? ⟨b, off + 2, none⟩ = some (.int .u8 (p : Int))) (c3 : w.cell? ⟨b, off + 3, none⟩ = some (.int .u8 (k : Int)))
    (s : Nat) (hs : numB ((ys.drop (4 + k)).take 8) = s) (hs1 : 1 ≤ s) (hs2 : s ≤ 4611686018427387903) :
    Calls Try.prog 34 #[.slice (some ⟨b, off, none⟩) n c] w (RetDec p k s ys w) := by
  have d2 := cell_past c2; have d3 := cell_past c3
  have hblk := World.block_lt_of_cell? w _ c2
  have hne : ((n : Int) != 16 + (k : Int)) = false := by simp; omega
  have n1 : k + 16 ≤ n := by omega
  have n2 : n ≤ k + 16 := by omega
  have n3 : ¬ c = 4 + k := by omega
  have n4 : ¬ c = 4 := by omega
  have r1 := rd_cut (zs := (ys.drop (4 + k)).take 8) hr (4 + k) 8 rfl
  have l1 : ((ys.drop (4 + k)).take 8).length = 8 := by rw [List.length_take, List.length_drop]; omega
  have b1 : ∀ x ∈ (ys.drop (4 + k)).take 8, x < 256 := fun x hx => hb x (List.mem_of_mem_drop (List.mem_of_mem_take hx))
  have C1 := Lib.hid (fun (o : Obj) => docNumber_any (w.alloc o) (some ⟨b, off + (4 + k), none⟩) 8 (c - (4 + k)) _ l1 (by omega) b1 (r1.alloc o))
  rw [hs] at C1
  have r4 := rd_cut (zs := (ys.drop 4).take k) hr 4 k rfl
  have lk : ((ys.drop 4).take k).length = k := by rw [List.length_take, List.length_drop]; omega
  have bk : ∀ x ∈ (ys.drop 4).take k, x < 256 := fun x hx => hb x (List.mem_of_mem_drop (List.mem_of_mem_take hx))
  have hL : (tokB p ((ys.drop 4).take k) s).length = n := by rw [tokB_len, lk]; omega
  have bt := tokB_lt p s _ (by omega) (by omega) bk
  unfold RetDec
  generalize (ys.drop 4).take k = xs at *
  have Hl := Lib.hid hl; have Hb := Lib.hid hb; have Hr := Lib.hid hr; have Hlk := Lib.hid lk; have Hbk := Lib.hid bk; have HL := Lib.hid hL; have Hbt := Lib.hid bt; have R4 := Lib.hid r4
  clear hl hb hr r1 l1 b1 hn hs lk bk hL bt r4 c2 c3
  go_enter Try.func34, Try.ntmps34
  go_wp2_with fail
  refine (C1.out _).mono ?_
  rintro e w1 ⟨rfl, hw1⟩
  have hx1 : Ext w w1 := by rw [← hw1]; exact (Ext.refl w).alloc _
  have k0 : w1.heap[w.heap.size]? = some (.cells #[.int .i64 0, .slice none 0 0, .int .i64 0] 53 (0, 0)) := by rw [← hw1]; exact heap_alloc_new w _
  have d2' : w1.cell? ⟨b, off + 2, none⟩ = some (.int .u8 (p : Int)) := by rw [← hw1]; exact d2 _
  have K0 := Lib.hid k0; have R5 := Lib.hid (R4.out.ext hx1)
  have hs1' : w.heap.size < w1.heap.size := blk_lt k0
  clear hw1 k0 d2 d3 R4 C1
  go_upto_region 9 with fail
  go_cut [6] (fun v wd => ∃ g A6 c6, v = .pointer (some ⟨g, 0, none⟩) ∧ wd.heap[g]? = some (.cells #[.int .i64 (p : Int), .slice A6 xs.length c6, .int .i64 (s : Int)] 53 (0, 0)) ∧ wd.ownsRow w1.heap.size 5 1 (.slice A6 xs.length c6) xs.length (vals .u8 xs) ∧ Ext w1 wd)
  case first =>
    have w1s : IntKind.i64.wrap (s : Int) = (s : Int) := by rw [IntKind.wrap_i64]; omega
    have w1p : IntKind.i64.wrap (p : Int) = (p : Int) := by rw [IntKind.wrap_i64]; omega
    have hsl : ∀ u : World, (Instr.slice 28 (.slice (some ⟨b, off, none⟩) n c) (some (.int .i64 4)) (some (.int .i64 (4 + (k : Int)))) none).run Try.prog u = .ok (.slice (some ⟨b, off + 4, none⟩) k (c - 4)) u := fun u => slice_mid Try.underlying28 size_u8 4 (4 + k) rfl (by omega) (by omega) hnc (by omega) (by omega) (by omega) u
    have C2 := Lib.hid (fun (W : World) (h : Ext w1 W) => twin_any (some ⟨b, off + 4, none⟩) k (c - 4) xs W Hlk.out (by omega) (R5.out.ext h))
    have C3 := Lib.hid (C2.out w1.drew (Ext.refl w1).drew)
    have C4 := Lib.hid (C2.out (w1.alloc (.cells #[.int .i64 0, .slice none 0 0, .int .i64 0] 53)).drew ((Ext.refl w1).alloc _).drew)
    have D2 := Lib.hid d2'
    have D3 := cell_past d2'
    clear C2
    go_region_with (first
      | (go_at_call 71; (with_reducible refine C3.out.mono ?_); rintro e w2 ⟨A2, c2, rfl, hown, hext⟩; have hx : Ext w1 w2 := (Ext.refl w1).drew.trans hext; have hcw : w2.cell? ⟨b, off + 2, none⟩ = some (.int .u8 (p : Int)) := (hx.cell (p := ⟨b, off + 2, none⟩) (World.block_lt_of_cell? w1 _ D2.out)).trans D2.out; have hcp := cell_past hcw)
      | (go_at_call 71; (with_reducible refine C4.out.mono ?_); rintro e w2 ⟨A2, c2, rfl, hown, hext⟩; have hx : Ext w1 w2 := ((Ext.refl w1).alloc _).drew.trans hext; have hcw : w2.cell? ⟨b, off + 2, none⟩ = some (.int .u8 (p : Int)) := (hx.cell (p := ⟨b, off + 2, none⟩) (World.block_lt_of_cell? w1 _ D2.out)).trans D2.out; have hcp := cell_past hcw; have kk := Lib.hid (blk_ext (show (w1.alloc (.cells #[.int .i64 0, .slice none 0 0, .int .i64 0] 53)).drew.heap[w1.heap.size]? = some (.cells #[.int .i64 0, .slice none 0 0, .int .i64 0] 53 (0, 0)) from blk_new w1 _) hext); have g0 := blk_cell kk.out 0; have g1 := blk_cell kk.out 1; have g2 := blk_cell kk.out 2; have f0 := blk_frozen kk.out 0; have f1 := blk_frozen kk.out 1; have f2 := blk_frozen kk.out 2))
    all_goals
      go_wp2_with fail
      go_meet
      first
      | exact ⟨_, A2, c2, rfl, heap_alloc_new w2 _, own_ext hown ((Ext.refl w2).alloc _), hx.alloc _⟩
      | exact ⟨_, A2, c2, rfl, row3h kk _ _ _, own_row3 (own_base (base' := w1.heap.size + 1) hown (by simp [World.drew])) (by omega) _ _ _, ext_row3 hx (Nat.le_refl _) _ _ _⟩
  case rest =>
    obtain ⟨g, A6, c6, rfl, hg, hown, hx6⟩ := hcut
    have Hg := Lib.hid hg; have Hown := Lib.hid hown; clear hg hown
    have g0 := blk_cell Hg.out 0; have g1 := blk_cell Hg.out 1; have g2 := blk_cell Hg.out 2
    have K6 := Lib.hid (blk_ext K0.out hx6)
    have C5 := Lib.hid (refTok_any wc p s A6 xs.length c6 xs rfl Hbk.out (Rd.of_own Hown.out) hs1 hs2 hp (by have := Hlk.out; omega))
    go_wp2_with fail
    refine C5.out.mono ?_
    rintro e w3 ⟨A3, c3, rfl, hown3, hy3⟩
    rw [HL.out] at hown3 ⊢
    have hx3 := (hx1.trans hx6).trans hy3
    have C6 := Lib.hid (same_any A3 (some ⟨b, off, none⟩) n c3 n c _ ys w3 HL.out Hl.out (by omega) Hbt.out Hb.out (Rd.of_own hown3) (Hr.out.ext hx3))
    have Hg3 := Lib.hid (blk_ext Hg.out hy3)
    have K3 := Lib.hid (blk_ext K6.out hy3)
    clear g0 g1 g2 hown3 C5
    go_wp2_with fail
    refine (toE_q C6.out).mono ?_
    rintro e w4 ⟨rfl, hy4⟩
    have hx4 := hx3.trans hy4
    have Hg4 := Lib.hid (blk_ext Hg3.out hy4)
    have K4 := Lib.hid (blk_ext K3.out hy4)
    have g0 := blk_cell Hg4.out 0; have g1 := blk_cell Hg4.out 1; have g2 := blk_cell Hg4.out 2
    have k0 := blk_cell K4.out 0; have k1 := blk_cell K4.out 1; have k2 := blk_cell K4.out 2
    have f0 := blk_frozen K4.out 0; have f1 := blk_frozen K4.out 1; have f2 := blk_frozen K4.out 2
    by_cases hsm : tokB p xs s = ys
    · have hs1 : same (tokB p xs s) ys = true := decide_eq_true hsm
      rw [hs1]
      have Hsm := Lib.hid hsm; clear hsm hs1 C6
      go_wp2_with fail
      refine bodyPost_ret (ret_tok rfl rfl (row3h K4 _ _ _)) rfl ?_
      refine ⟨fun _ => ?_, fun h => absurd Hsm.out h⟩
      have ho : wc.ownsRow (w.heap.size + 1) 5 1 (.slice A6 xs.length c6) xs.length (vals .u8 xs) := own_base Hown.out (by omega)
      exact ⟨A6, c6, rfl, own_row3 (own_ext ho (hy3.trans hy4)) (by omega) _ _ _, ext_row3 hx4 (Nat.le_refl _) _ _ _⟩
    · have hs1 : same (tokB p xs s) ys = false := decide_eq_false hsm
      rw [hs1]
      have Hsm := Lib.hid hsm; clear hsm hs1 C6
      go_wp2_with fail
      refine bodyPost_ret (ret_tok rfl rfl (row3h K4 _ _ _)) rfl ?_
      refine ⟨fun h => absurd h Hsm.out, fun _ => ⟨rfl, ext_row3 hx4 (Nat.le_refl _) _ _ _⟩⟩

theorem numB_tok (p s : Nat) (xs : List Nat) (hs : s ≤ 4611686018427387903) : numB (((tokB p xs s).drop (4 + xs.length)).take 8) = s := by
  rw [show 4 + xs.length = xs.length + 4 by omega, tok_num, numB_wordB]
  exact Nat.mod_eq_of_lt (Nat.lt_of_le_of_lt hs (by decide))
theorem refDecode_ok (w : World) (p s : Nat) (A : Option Addr) (n c : Nat) (xs : List Nat) (hn : n = xs.length + 16) (hb : ∀ x ∈ xs, x < 256) (hr : Rd w A (vals .u8 (tokB p xs s))) (hnc : n ≤ c) (h1 : 1 ≤ s) (h2 : s ≤ 4611686018427387903) (h4 : p < 32) (hk' : xs.length ≤ 255) :
    Calls Try.prog 34 #[.slice A n c] w (RetTok p xs s w) := by
  obtain ⟨b, off, hA, hc⟩ := hr (by simp [vals, tokB, bodyT])
  subst hA
  have c2 : w.cell? ⟨b, off + 2, none⟩ = some (.int .u8 (p : Int)) := hc 2 _ rfl
  have c3 : w.cell? ⟨b, off + 3, none⟩ = some (.int .u8 (xs.length : Int)) := hc 3 _ rfl
  refine (refDecode_mid w b off n c p xs.length (tokB p xs s) (by rw [tokB_len]; omega) (tokB_lt p s xs (by omega) (by omega) hb) hr hnc hn (by omega) h4 c2 c3 s (numB_tok p s xs h2) h1 h2).mono ?_
  rintro e w' ⟨h, _⟩
  rw [tok_key] at h
  exact h rfl
theorem refDecode_none (w : World) (A : Option Addr) (n c : Nat) (ys : List Nat) (hl : ys.length = n) (hb : ∀ x ∈ ys, x < 256) (hr : Rd w A (vals .u8 ys)) (hnc : n ≤ c) (hn : n ≤ 4096) (h : ¬ IsTok ys) :
    Calls Try.prog 34 #[.slice A n c] w (RetE (.tuple #[tokZ, .int .i64 3]) w) := by
  by_cases hf : n < 16
  · exact refDecode_few w A n c hf
  · obtain ⟨b, off, y0, y1, y2, y3, rfl, c0, c1, c2, c3, e0, e1, e2, e3⟩ := heads hr (by omega)
    have b2 := hb y2 (List.mem_of_getElem? e2); have b3 := hb y3 (List.mem_of_getElem? e3)
    by_cases hc : 32 ≤ y2 ∨ n ≠ 4 + y3 + 12
    · exact refDecode_bad1 w b off n c y2 y3 (by omega) hn b2 b3 c2 c3 hc
    · by_cases hs : numB ((ys.drop (4 + y3)).take 8) < 1 ∨ 4611686018427387903 < numB ((ys.drop (4 + y3)).take 8)
      · exact refDecode_bad2 w b off n c y2 y3 ys hl hb hr hnc (by omega) b3 (by omega) c2 c3 hs
      · refine (refDecode_mid w b off n c y2 y3 ys hl hb hr hnc (by omega) b3 (by omega) c2 c3 _ rfl (by omega) (by omega)).mono ?_
        rintro e w' ⟨_, h'⟩
        refine h' fun e => h ?_
        exact ⟨y2, _, (ys.drop 4).take y3, by omega, by omega, by omega, by rw [List.length_take]; omega, fun x hx => hb x (List.mem_of_mem_drop (List.mem_of_mem_take hx)), e.symm⟩
end Go.Proofs.Ythkdjjfnmlemdaa
