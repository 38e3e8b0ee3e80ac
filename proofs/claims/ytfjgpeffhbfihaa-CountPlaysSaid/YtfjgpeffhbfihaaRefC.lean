/- spigotref11: Swap, Clock. -/
import Derived.Test.YtfjgpeffhbfihaaRefB
namespace Go.Proofs.Ytfjgpeffhbfihaa
open Go.RowKit

set_option maxHeartbeats 1000000 in
set_option maxRecDepth 100000 in
theorem rswap_hit (w : World) (F : Nat → Prop) (g : Nat) (ws : List Nat) (clk : Int) (L : List AccE) (who : Int) (i x new : Nat) (h : RefAt w F g ws clk L) (hL : L.length ≤ 1000000) (hx : ws[i]? = some x) :
    Calls Try.prog 70 #[.pointer (some ⟨g, 0, none⟩), .int .i64 who, .int .i64 (i : Int), .int .u64 (x : Int), .int .u64 (new : Int)] w fun e w' => e = .returned (.bool true) ∧ RefGo w F g (ws.set i new) clk (L ++ [⟨who, 2, i, x, new, true⟩]) w' := by
  obtain ⟨gw, B, cb, h1, h2, h3, h7, h8, h9, h10, h11⟩ := id h
  obtain ⟨l, hl⟩ : ∃ l, L.length = l := ⟨_, rfl⟩
  rw [hl] at h1 h3 h10 hL
  have hi : i < ws.length := (List.getElem?_eq_some_iff.1 hx).1
  have b0 : w.cell? ⟨g, 0, none⟩ = some (.slice (some ⟨gw, 0, none⟩) ws.length ws.length) := blk_cell h1 0
  have b2 : w.cell? ⟨g, 2, none⟩ = some (.slice B l cb) := blk_cell h1 2
  have bx : w.cell? ⟨gw, i, none⟩ = some (.int .u64 (x : Int)) := (blk_cell h2 i).trans (by simpa using vals_get hx)
  have b2' := cell_past b2 (.cells (⟨who, 2, i, x, new, true⟩ : AccE).cells.toArray 151)
  have HG := Lib.hid h1; have HW := Lib.hid h2; have HO := Lib.hid h3; have H10 := Lib.hid h10; have H11 := Lib.hid h11; have HL := Lib.hid hl; have Hx := Lib.hid hx
  have hgs : g < w.heap.size := blk_lt h1
  have hng : ¬ (Value.slice B l cb).ownBlock = some g := fun e => by have := (h3.lt g e).1; omega
  have hnw : ¬ (Value.slice B l cb).ownBlock = some gw := fun e => by have := (h3.lt gw e).1; omega
  clear h1 h2 h3 h10 h11 hl hx h
  go_enter Try.func70, Try.ntmps70
  go_wp2_with (at_builtin; refine wpList_app_racc _ rfl (.tmp 25) (.tmp 32) rfl (g + 1) (by rfl) (own_ext HO.out ((Ext.refl w).alloc _)) (⟨who, 2, i, x, new, true⟩ : AccE) (by rfl) (rd_newk w (⟨who, 2, i, x, new, true⟩ : AccE).cells _ rfl) hL (Nat.le_trans hgs ((Ext.refl w).alloc _).size) ?_; intro B' cb' w6 o6 g6 b6; have HF := Lib.hid (ref_put HG.out HW.out HO.out HL.out h7 h8 h9 H10.out H11.out ((Ext.refl w).alloc _) o6 g6 b6); have GW : GB w w6 (fun i => (Value.slice B l cb).ownBlock = some i) := ((GB.refl w _).alloc _).grown g6 (fun q e => .inl e); have f2 := blk_frozen (GW.blk HG.out hng) 2; have t2 := GW.cell b2 hng; have t0 := GW.cell b0 hng; have fx := blk_frozen (GW.blk HW.out hnw) i; have tx := GW.cell bx hnw; clear o6 g6 b6)
  go_ret
  obtain ⟨F', m, gb6, f6⟩ := HF.out
  obtain ⟨gw', c0, _, _, hst⟩ := m.word Hx.out
  have e0 : (w6.setCell ⟨g, 2, none⟩ (.slice B' (l + 1) cb')).cell? ⟨g, 0, none⟩ = some (.slice (some ⟨gw, 0, none⟩) ws.length ws.length) := (World.cell?_setCell_other _ _ _ _ (by simp)).trans t0
  rw [e0] at c0
  injection c0 with c0
  injection c0 with c0
  injection c0 with c0
  injection c0 with c0
  subst c0
  obtain ⟨m2, g2⟩ := hst new
  exact ⟨rfl, RefGo.back gb6 f6 (RefGo.back g2 (fun i hi => .inl hi) (RefGo.refl m2))⟩
set_option maxHeartbeats 1000000 in
set_option maxRecDepth 100000 in
theorem rswap_miss (w : World) (F : Nat → Prop) (g : Nat) (ws : List Nat) (clk : Int) (L : List AccE) (who : Int) (i x old new : Nat) (h : RefAt w F g ws clk L) (hL : L.length ≤ 1000000) (hx : ws[i]? = some x) (hne : x ≠ old) :
    Calls Try.prog 70 #[.pointer (some ⟨g, 0, none⟩), .int .i64 who, .int .i64 (i : Int), .int .u64 (old : Int), .int .u64 (new : Int)] w fun e w' => e = .returned (.bool false) ∧ RefGo w F g ws clk (L ++ [⟨who, 2, i, old, new, false⟩]) w' := by
  obtain ⟨gw, B, cb, h1, h2, h3, h7, h8, h9, h10, h11⟩ := id h
  obtain ⟨l, hl⟩ : ∃ l, L.length = l := ⟨_, rfl⟩
  rw [hl] at h1 h3 h10 hL
  have hi : i < ws.length := (List.getElem?_eq_some_iff.1 hx).1
  have hd : ((x : Int) == (old : Int)) = false := by rw [beq_eq_false_iff_ne]; omega
  have b0 : w.cell? ⟨g, 0, none⟩ = some (.slice (some ⟨gw, 0, none⟩) ws.length ws.length) := blk_cell h1 0
  have b2 : w.cell? ⟨g, 2, none⟩ = some (.slice B l cb) := blk_cell h1 2
  have bx : w.cell? ⟨gw, i, none⟩ = some (.int .u64 (x : Int)) := (blk_cell h2 i).trans (by simpa using vals_get hx)
  have HG := Lib.hid h1; have HW := Lib.hid h2; have HO := Lib.hid h3; have H10 := Lib.hid h10; have H11 := Lib.hid h11; have HL := Lib.hid hl; have Hx := Lib.hid hx
  have hgs : g < w.heap.size := blk_lt h1
  have hng : ¬ (Value.slice B l cb).ownBlock = some g := fun e => by have := (h3.lt g e).1; omega
  clear h1 h2 h3 h10 h11 hl hx h hne
  go_enter Try.func70, Try.ntmps70
  go_wp2_with (at_builtin; refine wpList_app_racc _ rfl (.tmp 25) (.tmp 32) rfl (g + 1) (by rfl) (own_ext HO.out ((Ext.refl w).alloc _)) (⟨who, 2, i, old, new, false⟩ : AccE) (by rfl) (rd_newk w (⟨who, 2, i, old, new, false⟩ : AccE).cells _ rfl) hL (Nat.le_trans hgs ((Ext.refl w).alloc _).size) ?_; intro B' cb' w6 o6 g6 b6; have HF := Lib.hid (ref_put HG.out HW.out HO.out HL.out h7 h8 h9 H10.out H11.out ((Ext.refl w).alloc _) o6 g6 b6); have GW : GB w w6 (fun i => (Value.slice B l cb).ownBlock = some i) := ((GB.refl w _).alloc _).grown g6 (fun q e => .inl e); have f2 := blk_frozen (GW.blk HG.out hng) 2; have t2 := GW.cell b2 hng; clear o6 g6 b6)
  go_ret
  exact ⟨rfl, HF.out⟩
set_option maxHeartbeats 1000000 in
set_option maxRecDepth 100000 in
theorem rclock_any (w : World) (F : Nat → Prop) (g : Nat) (ws : List Nat) (clk : Nat) (L : List AccE) (who : Int) (h : RefAt w F g ws clk L) (hL : L.length ≤ 1000000) (hc : (clk : Int) ≤ 9223372036854775807) :
    Calls Try.prog 72 #[.pointer (some ⟨g, 0, none⟩), .int .i64 who] w fun e w' => e = .returned (.int .i64 (clk : Int)) ∧ RefGo w F g ws clk (L ++ [⟨who, 3, 0, clk, 0, true⟩]) w' := by
  obtain ⟨gw, B, cb, h1, h2, h3, h7, h8, h9, h10, h11⟩ := id h
  obtain ⟨l, hl⟩ : ∃ l, L.length = l := ⟨_, rfl⟩
  rw [hl] at h1 h3 h10 hL
  have b1 : w.cell? ⟨g, 1, none⟩ = some (.int .i64 (clk : Int)) := blk_cell h1 1
  have b2 : w.cell? ⟨g, 2, none⟩ = some (.slice B l cb) := blk_cell h1 2
  have HG := Lib.hid h1; have HW := Lib.hid h2; have HO := Lib.hid h3; have H10 := Lib.hid h10; have H11 := Lib.hid h11; have HL := Lib.hid hl
  have hgs : g < w.heap.size := blk_lt h1
  have hng : ¬ (Value.slice B l cb).ownBlock = some g := fun e => by have := (h3.lt g e).1; omega
  have hcw : IntKind.u64.wrap (clk : Int) = (clk : Int) := by rw [IntKind.wrap_u64]; omega
  clear h1 h2 h3 h10 h11 hl h
  go_enter Try.func72, Try.ntmps72
  go_upto_region 1 with fail
  go_cut [] (fun wd => RefGo w F g ws clk (L ++ [⟨who, 3, 0, clk, 0, true⟩]) wd)
  case first =>
    go_region_law
      ((refine step_app_racc _ rfl (.tmp 9) (.tmp 17) rfl (g + 1) (by rfl) (own_ext HO.out ((Ext.refl w).alloc _).drew) (⟨who, 3, 0, clk, 0, true⟩ : AccE) (by rfl) (rdD' (rd_newk w (⟨who, 3, 0, clk, 0, true⟩ : AccE).cells _ rfl)) hL (Nat.le_trans hgs ((Ext.refl w).alloc _).drew.size) ?_; intro B' cb' w6 o6 g6 b6; have HF := Lib.hid (ref_put HG.out HW.out HO.out HL.out h7 h8 h9 H10.out H11.out ((Ext.refl w).alloc _).drew o6 g6 b6); have GW : GB w w6 (fun i => (Value.slice B l cb).ownBlock = some i) := ((GB.refl w _).alloc _).drew.grown g6 (fun q e => .inl e); have t1 := GW.cell b1 hng; have t2 := GW.cell b2 hng; have f2 := blk_frozen (GW.blk HG.out hng) 2))
    all_goals
      go_wp2_with fail
      go_meet
      exact HF.out
  case rest =>
    have HC := Lib.hid hcut
    obtain ⟨F', m, _, _⟩ := hcut
    obtain ⟨c1, _, _⟩ := m.clock
    clear b1 b2 m
    go_wp2_with fail
    go_ret
    exact ⟨rfl, HC.out⟩
end Go.Proofs.Ytfjgpeffhbfihaa
