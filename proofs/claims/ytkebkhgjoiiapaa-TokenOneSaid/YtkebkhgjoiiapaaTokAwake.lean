/- The token statements' own first call answers true. -/
import Derived.Test.YtkebkhgjoiiapaaTokS
import Derived.Test.YtkebkhgjoiiapaaHex
import Derived.Lib.SlBytesConst
import Derived.Test.YtkebkhgjoiiapaaFrame
namespace Go.Proofs.Ytkebkhgjoiiapaa
open Go.RowKit

set_option maxHeartbeats 4000000 in
set_option maxRecDepth 100000 in
theorem tokAwake (w : World) : Calls Try.prog 29 #[] w (RetTrue w) := by
  have kc := fun (w : World) (C : Array Value) (n c : Nat) => Lib.run_convert_bytes_const (P := Try.prog) w 22 5 C n c Try.underlying22 Try.underlying5
  have kc2 := fun (w : World) (o : Obj) (C : Array Value) (n c : Nat) => Lib.run_convert_bytes_const (P := Try.prog) (w.alloc o) 22 5 C n c Try.underlying22 Try.underlying5
  simp only [World.size_alloc] at kc2
  go_enter Try.func29, Try.ntmps29
  go_wp2_with fail
  refine (tokEncode_ok _ 1 258 _ 1 1 [107] rfl (by decide) (rd_mark _ _ _ _) (by omega) (by omega) (by omega) (by omega)).mono ?_
  rintro e w1 ⟨A1, c1, rfl, hown1, hy1⟩
  have hx1 : Ext w w1 := ((Ext.refl w).alloc _).trans hy1
  have hl1 : (tokB 1 [107] 258).length = 17 := tokB_len 1 [107] 258
  rw [hl1] at hown1 ⊢
  clear hl1
  have hcap := own_cap hown1
  obtain ⟨g, rfl, hg, hg'⟩ := own_block hown1 (by omega)
  have hr1 := Lib.hid (Rd.of_own hown1)
  have Hown1 := Lib.hid hown1; clear hown1
  go_wp2_with fail
  refine (decode_ok w1 1 258 1 _ 17 c1 [107] rfl rfl (by decide) hr1.out hcap (by omega) (by omega) (by omega) (by omega)).mono ?_
  rintro e w2 ⟨A2, c2, rfl, hown2, hy2⟩
  have hx2 := hx1.trans hy2
  have ho1 := own_ext Hown1.out hy2
  have k0 := cell_past (show w2.cell? ⟨g, 0, none⟩ = some (.int .u8 83) from (ho1.cellAt 0 (by omega)).trans rfl)
  have k1 := cell_past (show w2.cell? ⟨g, 1, none⟩ = some (.int .u8 71) from (ho1.cellAt 1 (by omega)).trans rfl)
  have k2 := cell_past (show w2.cell? ⟨g, 2, none⟩ = some (.int .u8 1) from (ho1.cellAt 2 (by omega)).trans rfl)
  have k3 := cell_past (show w2.cell? ⟨g, 3, none⟩ = some (.int .u8 1) from (ho1.cellAt 3 (by omega)).trans rfl)
  have k4 := cell_past (show w2.cell? ⟨g, 4, none⟩ = some (.int .u8 107) from (ho1.cellAt 4 (by omega)).trans rfl)
  have k11 := cell_past (show w2.cell? ⟨g, 11, none⟩ = some (.int .u8 1) from (ho1.cellAt 11 (by omega)).trans rfl)
  have k12 := cell_past (show w2.cell? ⟨g, 12, none⟩ = some (.int .u8 2) from (ho1.cellAt 12 (by omega)).trans rfl)
  have hr2 := Lib.hid (Rd.of_own hown2)
  clear ho1 hown2
  go_wp2_with fail
  refine (tokSame_any _ 1 1 258 258 A2 _ 1 c2 1 1 [107] [107] rfl rfl (by omega) (by decide) (by decide) ((hr2.out.alloc _).alloc _) (rd_mark2 w2 _ _ _ _)).mono ?_
  rintro e w3 ⟨rfl, hy3⟩
  have hx3 : Ext w w3 := hx2.trans ((((Ext.refl w2).alloc _).alloc _).trans hy3)
  rw [show decide ((1 : Int) = 1 ∧ [107] = [107] ∧ (258 : Int) = 258) = true by decide]
  clear k0 k1 k2 k3 k4 k11 k12 hr2 hr1 Hown1
  go_wp2_with fail
  refine (hex_any _ _ 1 1 [26] rfl (by decide) (rd_mark _ _ _ _) (by omega)).mono ?_
  rintro e w4 ⟨rfl, hy4⟩
  have hx4 : Ext w w4 := hx3.trans (((Ext.refl w3).alloc _).trans hy4)
  rw [show ((hexN [26]).map fun x => x.toUInt8).toArray = #[49, 97] by decide]
  go_wp2_with fail
  go_ret
  exact retTrue hx4
end Go.Proofs.Ytkebkhgjoiiapaa
