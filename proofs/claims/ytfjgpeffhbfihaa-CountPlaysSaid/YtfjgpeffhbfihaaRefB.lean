/- spigotref11: Load, Swap, Clock and the document's calls. -/
import Derived.Test.YtfjgpeffhbfihaaRefA
import Derived.Deep.RegionLaw
namespace Go.Proofs.Ytfjgpeffhbfihaa
open Go.RowKit

theorem rdD' {w : World} {A : Option Addr} {vs : List Value} (h : Rd w A vs) : Rd w.drew A vs := h
theorem RefAt.word {w : World} {F : Nat → Prop} {g : Nat} {ws : List Nat} {clk : Int} {L : List AccE} (h : RefAt w F g ws clk L) {i x : Nat} (hx : ws[i]? = some x) :
    ∃ gw, w.cell? ⟨g, 0, none⟩ = some (.slice (some ⟨gw, 0, none⟩) ws.length ws.length) ∧ w.cell? ⟨gw, i, none⟩ = some (.int .u64 (x : Int)) ∧ w.frozen? ⟨gw, i, none⟩ = false ∧
      ∀ y : Nat, RefAt (w.setCell ⟨gw, i, none⟩ (.int .u64 (y : Int))) F g (ws.set i y) clk L ∧ GB w (w.setCell ⟨gw, i, none⟩ (.int .u64 (y : Int))) F := by
  obtain ⟨gw, B, cb, h1, h2, h3, h7, h8, h9, h10, h11⟩ := h
  refine ⟨gw, blk_cell h1 0, (blk_cell h2 i).trans (by simpa using vals_get hx), blk_frozen h2 i, fun y => ⟨⟨gw, B, cb, ?_, ?_, ?_, h7, h8, h9, h10, fun i hi => by simpa using h11 i hi⟩, (GB.refl w F).set gw i _ (.inl h9)⟩⟩
  · rw [List.length_set]
    exact blk_grown h1 (grown_set w gw i _) (by omega)
  · refine (blk_set h2 i _).trans ?_
    rw [vals_set]
    simp
  · refine h3.kept (grown_set w gw i _) ?_
    cases hq : (Value.slice B L.length cb).ownBlock with
    | none => exact .inl rfl
    | some q => exact .inr fun e => by injection e with e; have := (h3.lt q hq).1; omega
theorem RefAt.clock {w : World} {F : Nat → Prop} {g : Nat} {ws : List Nat} {clk : Int} {L : List AccE} (h : RefAt w F g ws clk L) :
    w.cell? ⟨g, 1, none⟩ = some (.int .i64 clk) ∧ w.frozen? ⟨g, 1, none⟩ = false ∧
      ∀ y : Int, RefAt (w.setCell ⟨g, 1, none⟩ (.int .i64 y)) F g ws y L ∧ GB w (w.setCell ⟨g, 1, none⟩ (.int .i64 y)) F := by
  obtain ⟨gw, B, cb, h1, h2, h3, h7, h8, h9, h10, h11⟩ := h
  refine ⟨blk_cell h1 1, blk_frozen h1 1, fun y => ⟨⟨gw, B, cb, blk_set h1 1 _, blk_grown h2 (grown_set w g 1 _) (by omega), ?_, h7, h8, h9, h10, fun i hi => by simpa using h11 i hi⟩, (GB.refl w F).set g 1 _ (.inl h8)⟩⟩
  refine h3.kept (grown_set w g 1 _) ?_
  cases hq : (Value.slice B L.length cb).ownBlock with
  | none => exact .inl rfl
  | some q => exact .inr fun e => by injection e with e; have := (h3.lt q hq).1; omega
theorem RefGo.back {w W w' : World} {F F1 : Nat → Prop} {g : Nat} {ws : List Nat} {clk : Int} {L : List AccE} (h : GB w W F) (hf : ∀ i, F1 i → F i ∨ w.heap.size ≤ i) (k : RefGo W F1 g ws clk L w') : RefGo w F g ws clk L w' := by
  obtain ⟨F', k1, k2, k3⟩ := k
  refine ⟨F', k1, h.trans k2 hf, fun i hi => ?_⟩
  rcases k3 i hi with k3 | k3
  · exact hf i k3
  · exact .inr (Nat.le_trans h.size k3)
theorem RefGo.refl {w : World} {F : Nat → Prop} {g : Nat} {ws : List Nat} {clk : Int} {L : List AccE} (h : RefAt w F g ws clk L) : RefGo w F g ws clk L w := ⟨F, h, GB.refl w F, fun _ h => .inl h⟩
set_option maxHeartbeats 1000000 in
set_option maxRecDepth 100000 in
theorem rload_any (w : World) (F : Nat → Prop) (g : Nat) (ws : List Nat) (clk : Int) (L : List AccE) (who : Int) (i x : Nat) (h : RefAt w F g ws clk L) (hL : L.length ≤ 1000000) (hx : ws[i]? = some x) :
    Calls Try.prog 68 #[.pointer (some ⟨g, 0, none⟩), .int .i64 who, .int .i64 (i : Int)] w fun e w' => e = .returned (.int .u64 (x : Int)) ∧ RefGo w F g ws clk (L ++ [⟨who, 1, i, x, 0, true⟩]) w' := by
  obtain ⟨gw, B, cb, h1, h2, h3, h7, h8, h9, h10, h11⟩ := id h
  obtain ⟨l, hl⟩ : ∃ l, L.length = l := ⟨_, rfl⟩
  rw [hl] at h1 h3 h10 hL
  have hi : i < ws.length := (List.getElem?_eq_some_iff.1 hx).1
  have b0 : w.cell? ⟨g, 0, none⟩ = some (.slice (some ⟨gw, 0, none⟩) ws.length ws.length) := blk_cell h1 0
  have b2 : w.cell? ⟨g, 2, none⟩ = some (.slice B l cb) := blk_cell h1 2
  have bx : w.cell? ⟨gw, i, none⟩ = some (.int .u64 (x : Int)) := (blk_cell h2 i).trans (by simpa using vals_get hx)
  have hi' : (i : Int) < (ws.length : Int) := by omega
  have hi0 : (0 : Int) ≤ (i : Int) := by omega
  have HG := Lib.hid h1; have HW := Lib.hid h2; have HO := Lib.hid h3; have H10 := Lib.hid h10; have H11 := Lib.hid h11; have HL := Lib.hid hl; have Hx := Lib.hid hx
  have hgs : g < w.heap.size := blk_lt h1
  have hng : ¬ (Value.slice B l cb).ownBlock = some g := fun e => by have := (h3.lt g e).1; omega
  have hnw : ¬ (Value.slice B l cb).ownBlock = some gw := fun e => by have := (h3.lt gw e).1; omega
  clear h1 h2 h3 h10 h11 hl hx h
  go_enter Try.func68, Try.ntmps68
  go_upto_region 1 with fail
  go_cut [] (fun wd => RefGo w F g ws clk (L ++ [⟨who, 1, i, x, 0, true⟩]) wd)
  case first =>
    go_region_law
      ((refine step_app_racc _ rfl (.tmp 11) (.tmp 22) rfl (g + 1) (by rfl) (own_ext HO.out ((Ext.refl w).alloc _).drew) (⟨who, 1, i, x, 0, true⟩ : AccE) (by rfl) (rdD' (rd_newk w (⟨who, 1, i, x, 0, true⟩ : AccE).cells _ rfl)) hL (Nat.le_trans hgs ((Ext.refl w).alloc _).drew.size) ?_; intro B' cb' w6 o6 g6 b6; have HF := Lib.hid (ref_put HG.out HW.out HO.out HL.out h7 h8 h9 H10.out H11.out ((Ext.refl w).alloc _).drew o6 g6 b6); have GW : GB w w6 (fun i => (Value.slice B l cb).ownBlock = some i) := ((GB.refl w _).alloc _).drew.grown g6 (fun q e => .inl e); have t0 := GW.cell b0 hng; have t2 := GW.cell b2 hng; have tx := GW.cell bx hnw; have f2 := blk_frozen (GW.blk HG.out hng) 2))
    all_goals
      go_wp2_with fail
      go_meet
      exact HF.out
  case rest =>
    have HC := Lib.hid hcut
    obtain ⟨F', m, _, _⟩ := hcut
    obtain ⟨gw', c0, cx, _, _⟩ := m.word Hx.out
    clear b0 b2 bx m
    go_wp2_with fail
    go_ret
    exact ⟨rfl, HC.out⟩
end Go.Proofs.Ytfjgpeffhbfihaa
