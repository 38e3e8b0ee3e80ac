/- shard: New. -/
import Derived.Test.YtlgggeeflomelaaShB
namespace Go.Proofs.Ytlgggeeflomelaa
open Go.RowKit

theorem bswap_raw (w : World) (Fm : Nat → Prop) (gm gb gh : Nat) (t : TypeId) (h : MachAt w Fm gm [0] 0 []) (b0 : w.cell? ⟨gb, 0, none⟩ = some (.pointer (some ⟨gm, 0, none⟩))) (b1 : w.cell? ⟨gb, 1, none⟩ = some (.slice (some ⟨gh, 0, none⟩) 1 1)) (hh : w.heap[gh]? = some (.cells #[.slice none 0 0] t (0, 0))) (hb : ¬ Fm gb) (hg : ¬ Fm gh) :
    Calls Try.prog 61 #[.pointer (some ⟨gb, 0, none⟩), .int .i64 0, .int .i64 0, .int .u64 0, .int .u64 1, .slice none 0 0] w (fun e w' => e = .returned (.bool true) ∧ ∃ w1, MachGo w Fm gm [1] 0 [⟨0, 2, 0, 0, 1, true⟩] w1 ∧ w' = w1.setCell ⟨gh, 0, none⟩ (.slice none 0 0)) := by
  have LD := Lib.hid (swap0h w Fm gm 0 1 0 [] 1 rfl h (by simp) (by omega))
  have g0 := blk_cell hh 0
  clear h
  go_enter Try.func61, Try.ntmps61
  go_wp2_with fail
  refine LD.out.mono ?_
  rintro e w1 ⟨rfl, hgo⟩
  have HG := Lib.hid hgo
  obtain ⟨_, _, g, _⟩ := hgo
  have c0 := g.cell b0 hb; have c1 := g.cell b1 hb; have d0 := g.cell g0 hg; have fz := blk_frozen (g.blk hh hg) 0
  clear b0 b1 g0 g hh
  go_wp2_with fail
  go_ret
  exact ⟨rfl, w1, HG.out, rfl⟩
def BoardNew (w : World) (e : Ending) (w' : World) : Prop :=
  ∃ (gb gm gh : Nat) (Fm : Nat → Prop) (tb th : TypeId), e = .returned (.pointer (some ⟨gb, 0, none⟩)) ∧ MachAt w' Fm gm [0] 0 [] ∧ w'.heap[gb]? = some (.cells #[.pointer (some ⟨gm, 0, none⟩), .slice (some ⟨gh, 0, none⟩) 1 1] tb (0, 0)) ∧ w'.heap[gh]? = some (.cells #[.slice none 0 0] th (0, 0)) ∧ Ext w w' ∧ (∀ i, Fm i → w.heap.size ≤ i) ∧ w.heap.size ≤ gb ∧ w.heap.size ≤ gh ∧ ¬ Fm gb ∧ ¬ Fm gh ∧ gb ≠ gh
theorem info_ents : (Try.prog.info? 90).map (fun i => (i.zero, i.size, i.bytes)) = some (some (.slice none 0 0), 1, 24) := by kernel_rfl
theorem made_one : madeCells #[.slice none 0 0] 1 = #[Value.slice none 0 0] := by kernel_rfl
set_option maxHeartbeats 1000000 in
set_option maxRecDepth 100000 in
theorem bnew_any (w : World) : Calls Try.prog 60 #[.int .i64 1] w (BoardNew w) := by
  have hmk : ∀ w : World, (Instr.makeSlice 177 (.int .i64 1) (.int .i64 1)).run Try.prog w = .ok (.slice (some ⟨w.heap.size, 0, none⟩) 1 1) (w.alloc (.cells (madeCells #[.slice none 0 0] 1) 90)) := run_make_row' (P := Try.prog) 177 90 (.slice none 0 0) 24 Try.underlying177 info_ents rfl .i64 .i64 1 (by omega) (by omega)
  go_enter Try.func60, Try.ntmps60
  go_wp2_with fail
  refine (mnew_ok 1 w (by omega) (by omega)).mono ?_
  rintro e w1 ⟨gm, Fm, rfl, m1, x1, f1, hg⟩
  have M1 := Lib.hid m1
  clear m1
  go_wp2_with fail
  go_ret
  have hlt := M1.out.lt
  refine ⟨w1.heap.size + 1, gm, w1.heap.size, Fm, _, 90, rfl, M1.out.ext (((Ext.refl w1).alloc _).alloc _), blk_newk _ _ (by simp), (blk_past (blk_new w1 _) _).trans (by rw [made_one]), (x1.alloc _).alloc _, f1, by have := x1.size; omega, x1.size, fun e => ?_, fun e => ?_, by omega⟩
  · have := hlt _ e; omega
  · have := hlt _ e; omega
def sInit : SSt := ⟨1, [], fun _ => .idle⟩
def ShNew (w : World) (e : Ending) (w' : World) : Prop :=
  ∃ gx gb C F L, e = .returned (.pointer (some ⟨gx, 0, none⟩)) ∧ ShAt w' C F gx gb L sInit ∧ Ext w w' ∧ L.length ≤ 1 ∧ ∀ i, F i → w.heap.size ≤ i
set_option maxHeartbeats 1000000 in
set_option maxRecDepth 100000 in
theorem snew_any (w : World) : Calls Try.prog 33 #[] w (ShNew w) := by
  go_enter Try.func33, Try.ntmps33
  go_wp2_with fail
  refine (bnew_any w).mono ?_
  rintro e w1 ⟨gb, gm, gh, Fm, tb, th, rfl, m1, hb, hh, x1, f1, gb1, gh1, nb, nh, ne⟩
  have SW := Lib.hid (bswap_raw w1 Fm gm gb gh th m1 (blk_cell hb 0) (blk_cell hb 1) hh nb nh)
  have HB := Lib.hid hb; have HH := Lib.hid hh; have X1 := Lib.hid x1; have F1 := Lib.hid f1; have M1 := Lib.hid m1.lt
  clear m1 hb hh x1 f1
  go_wp2_with fail
  refine SW.out.mono ?_
  rintro e w2 ⟨rfl, wm, hgo, rfl⟩
  have HG := Lib.hid hgo
  clear hgo
  go_wp2_with fail
  go_ret
  obtain ⟨Fm', m, g, f⟩ := HG.out
  have gs : GB wm (wm.setCell ⟨gh, 0, none⟩ (.slice none 0 0)) (· = gh) := (GB.refl wm (· = gh)).set gh _ _ (.inl rfl)
  have hz : (wm.setCell ⟨gh, 0, none⟩ (.slice none 0 0)).heap.size = wm.heap.size := by simp
  have hgz := g.size
  have hm := m.lt
  have hbl := blk_lt HB.out
  have hhl := blk_lt HH.out
  have hx1 := X1.out.size
  have hf' : ∀ q, q < w1.heap.size → ¬ Fm q → ¬ Fm' q := fun q hq h e => by
    rcases f q e with f | f
    · exact h f
    · omega
  have hFm' : ∀ i, Fm' i → w.heap.size ≤ i := fun i hi => (f i hi).elim (F1.out i) (fun h => by omega)
  have xx : Ext w (wm.setCell ⟨gh, 0, none⟩ (.slice none 0 0)) := (g.to_ext X1.out F1.out).grown (grown_set wm gh 0 _) (fun q hq => by injection hq with hq; omega)
  refine ⟨wm.heap.size, gb, fun i => Fm' i ∨ i = gh ∨ i = wm.heap.size, fun i => (Fm' i ∨ i = gh ∨ i = wm.heap.size) ∨ i = gb, _, rfl, ?_, xx.alloc _, (by simp : [(⟨0, 2, 0, 0, 1, true⟩ : AccE)].length ≤ 1), fun i hi => ?_⟩
  · refine ⟨Fm', gm, gh, List.replicate 64 .nilFunc, none, 0, [], _, tb, th, (m.gb gs (fun i hi e => hf' _ hhl nh (e ▸ hi))).ext ((Ext.refl _).alloc _), blk_newk _ _ hz, by simp, blk_past (gs.blk (g.blk HB.out nb) ne) _, blk_past (blk_set (g.blk HH.out nh) 0 _) _, ⟨EntRd.nil _, (fun a ha => by cases ha), (fun q hq => by cases hq)⟩, fun i v hv => ?_, fun e => ?_, hf' _ hhl nh, ?_, .inr (.inr rfl), .inr (.inl rfl), fun e => ?_, .inr rfl, fun i hi => .inl hi, fun i hi => .inl hi, fun i hi => ?_⟩
    · rw [List.getElem?_replicate] at hv
      split at hv
      · injection hv with hv
        exact hv.symm
      · cases hv
    · exact Nat.lt_irrefl _ (hm _ e)
    · show wm.heap.size ≠ gh
      omega
    · rcases e with e | e | e
      · exact hf' _ hbl nb e
      · exact ne e
      · omega
    · rw [World.size_alloc, hz]
      rcases hi with (hi | rfl | rfl) | rfl
      · have := hm i hi; omega
      · omega
      · omega
      · omega
  · rcases hi with (hi | rfl | rfl) | rfl
    · exact hFm' i hi
    · exact gh1
    · omega
    · exact gb1
end Go.Proofs.Ytlgggeeflomelaa
