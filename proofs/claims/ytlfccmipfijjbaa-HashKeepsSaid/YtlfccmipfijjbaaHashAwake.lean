/- The statements' own first call: it answers true. -/
import Derived.Test.YtlfccmipfijjbaaHashB
import Derived.Test.YtlfccmipfijjbaaHashC
import Derived.Test.YtlfccmipfijjbaaFrame
import Derived.Lib.SlBytesConst
namespace Go.Proofs.Ytlfccmipfijjbaa
open Go.RowKit


set_option maxHeartbeats 1000000 in
theorem awake_any (w : World) : Calls Try.prog 10 #[] w (RetTrue w) := by
  have kc := fun (w : World) (C : Array Value) (n c : Nat) => Lib.run_convert_bytes_const (P := Try.prog) w 23 5 C n c Try.underlying23 Try.underlying5
  have kc2 := fun (w : World) (o : Obj) (C : Array Value) (n c : Nat) => Lib.run_convert_bytes_const (P := Try.prog) (w.alloc o) 23 5 C n c Try.underlying23 Try.underlying5
  simp only [World.size_alloc] at kc2
  go_enter Try.func10, Try.ntmps10
  go_wp2_with fail
  refine (ident_ok 3 _ 2 2 [97, 98] _ (by omega) rfl (by omega) (rd_mark _ _ _ _)).mono ?_
  rintro e w1 ⟨A1, c1, rfl, hown1, hext1⟩
  have hx1 : Ext w w1 := ((Ext.refl w).alloc _).trans hext1
  clear hext1
  go_wp2_with fail
  refine (toE_q (shard_ok _ 1 1 [97] 4 _ rfl (by decide) (by omega) (rd_mark _ _ _ _) (by omega))).mono ?_
  rintro e w2 ⟨rfl, hext2⟩
  have hx2 : Ext w1 w2 := ((Ext.refl w1).alloc _).trans hext2
  clear hext2
  go_wp2_with fail
  refine (toE_eq (sum_any _ 1 1 [97] _ rfl (by decide) (by omega) (rd_mark _ _ _ _))).mono ?_
  rintro e w3 ⟨rfl, hext3⟩
  have e1 : upd 14695981039346656037 [97] = 12638187200555641996 := by decide +kernel
  have e2 : shardN 12638187200555641996 4 = 12 := by decide +kernel
  rw [e1, e2]
  have hx3 : Ext w2 w3 := ((Ext.refl w2).alloc _).trans hext3
  clear hext3
  go_wp2_with fail
  refine (toE_q (same_any A1 _ 3 c1 3 3 [3, 97, 98] [3, 97, 98] _ rfl rfl (by omega) (by decide) (by decide) ((Rd.of_own hown1).ext ((hx2.trans hx3).alloc _)) (rd_new _ _ _))).mono ?_
  rintro e w4 ⟨rfl, hext4⟩
  have hx4 : Ext w3 w4 := ((Ext.refl w3).alloc _).trans hext4
  clear hext4
  have e3 : same [3, 97, 98] [3, 97, 98] = true := by decide
  rw [e3]
  go_wp2_with fail
  refine (toE_eq (order_any _ _ 1 1 1 1 [97] [98] _ rfl rfl (by decide) (by decide) ((rd_mark _ _ _ _).alloc _) (rd_mark2 _ _ _ _ _))).mono ?_
  rintro e w5 ⟨rfl, hext5⟩
  have hx5 : Ext w4 w5 := (((Ext.refl w4).alloc _).alloc _).trans hext5
  clear hext5
  have e4 : ord [97] [98] = -1 := by decide
  rw [e4]
  go_wp2_with fail
  go_ret
  exact retTrue (hx1.trans (hx2.trans (hx3.trans (hx4.trans hx5))))
end Go.Proofs.Ytlfccmipfijjbaa
