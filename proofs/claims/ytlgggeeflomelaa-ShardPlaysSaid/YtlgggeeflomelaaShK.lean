/- the document's first example of shard. -/
import Derived.Test.YtlgggeeflomelaaShJ
import Derived.Test.YtlgggeeflomelaaBase2
import Derived.Lib.SlBytesConst
namespace Go.Proofs.Ytlgggeeflomelaa
open Go.RowKit

theorem sin_start_lit (w0 w : World) (F : Nat → Prop) (gx k who op : Nat) (key : List Nat) (val whoi opi : Int) (s : SSt) (K : Option Addr) (m d : Nat) (h : ShIn w0 F gx k s w) (hwi : whoi = (who : Int)) (hoi : opi = (op : Int)) (hw : who < 64) (h1 : 1 ≤ op) (h4 : op ≤ 4) (hv : 0 ≤ val ∧ val ≤ 4611686018427387903) (hkl : key.length = m) (hkb : ∀ x ∈ key, x < 256) (hr : Rd w K (vals .u8 key)) (he : startErrS s who key = 0) :
    Calls Try.prog 36 #[.pointer (some ⟨gx, 0, none⟩), .int .i64 whoi, .int .u8 opi, .slice K m d, .int .i64 val] w fun e w' => e = .returned (.int .i64 0) ∧ SinGo w0 w F gx k (s.put who (.begun op key val)) w' := by
  subst hwi hoi
  refine (sin_start w0 w F gx k who op key val s K m d h hw h1 h4 (fun _ => hv) hkl hkb hr).mono ?_
  rintro e w' ⟨rfl, hg⟩
  unfold startStS at hg
  rw [if_pos he] at hg
  exact ⟨by rw [he]; rfl, hg⟩
theorem sin_step_lit (w0 w : World) (F : Nat → Prop) (gx k who : Nat) (whoi eri nu : Int) (d : Bool) (er : Nat) (s s' : SSt) (h : ShIn w0 F gx k s w) (hwi : whoi = (who : Int)) (hw : who < 64) (hs : idleS (s.call who) = false) (hr : sStep s who = (s', ⟨d, er, nu⟩)) (he : eri = (er : Int)) (hk : k ≤ 100000) :
    Calls Try.prog 37 #[.pointer (some ⟨gx, 0, none⟩), .int .i64 whoi] w fun e w' => e = .returned (.tuple #[.agg #[.bool d, .int .i64 eri, .int .i64 nu], .int .i64 0]) ∧ SinGo w0 w F gx (k + 1) s' w' := by
  subst hwi he
  have := sin_step w0 w F gx k who s h hw (fun e => by rw [e] at hs; cases hs) hk
  rw [hr] at this
  exact this
def aw1 : SSt := sInit.put 0 (.begun 2 [97] 5)
def aw2 : SSt := aw1.put 1 (.begun 3 [97] 2)
def aw3 : SSt := (sStep aw2 0).1
def aw4 : SSt := (sStep aw3 1).1
def aw5 : SSt := (sStep aw4 0).1
def aw6 : SSt := (sStep aw5 1).1
def aw7 : SSt := (sStep aw6 1).1
def aw8 : SSt := (sStep aw7 1).1
theorem step_eta {s s' : SSt} {who : Nat} {r : SRes} (h : (sStep s who).2 = r) (h' : s' = (sStep s who).1) : sStep s who = (s', r) := by
  subst h h'
  rfl
theorem ar3 : (sStep aw2 0).2 = ⟨false, 0, 0⟩ := by kernel_rfl
theorem ar4 : (sStep aw3 1).2 = ⟨false, 0, 0⟩ := by kernel_rfl
theorem ar5 : (sStep aw4 0).2 = ⟨true, 0, 5⟩ := by kernel_rfl
theorem ar6 : (sStep aw5 1).2 = ⟨false, 0, 0⟩ := by kernel_rfl
theorem ar7 : (sStep aw6 1).2 = ⟨false, 0, 0⟩ := by kernel_rfl
theorem ar8 : (sStep aw7 1).2 = ⟨true, 0, 7⟩ := by kernel_rfl
theorem ai2 : idleS (aw2.call 0) = false := by kernel_rfl
theorem ai3 : idleS (aw3.call 1) = false := by kernel_rfl
theorem ai4 : idleS (aw4.call 0) = false := by kernel_rfl
theorem ai5 : idleS (aw5.call 1) = false := by kernel_rfl
theorem ai6 : idleS (aw6.call 1) = false := by kernel_rfl
theorem ai7 : idleS (aw7.call 1) = false := by kernel_rfl
theorem av8 : aw8.ver = 3 := by kernel_rfl
theorem ae0 : startErrS sInit 0 [97] = 0 := by kernel_rfl
theorem ae1 : startErrS aw1 1 [97] = 0 := by kernel_rfl
theorem by_a : ∀ x ∈ [97], x < 256 := by decide
set_option maxHeartbeats 4000000 in
set_option maxRecDepth 100000 in
theorem shAwake (w : World) : Calls Try.prog 32 #[] w fun e w' => e = .returned (.bool true) ∧ Ext w w' := by
  have kc := fun (w : World) (C : Array Value) (n c : Nat) => Lib.run_convert_bytes_const (P := Try.prog) w 68 5 C n c Try.underlying68 Try.underlying5
  go_enter Try.func32, Try.ntmps32
  go_wp2_with fail
  refine (sin_new w w (Ext.refl w)).mono ?_
  rintro e w1 ⟨gx, F1, rfl, h1, _, _⟩
  have R1 := Lib.hid (fun (u : World) (x : Ext w1 u) (hr : Rd u (some ⟨w1.heap.size, 0, none⟩) (vals .u8 [97])) => sin_start_lit w u F1 gx 1 0 2 [97] 5 0 2 sInit _ 1 1 (h1.ext x) rfl rfl (by omega) (by omega) (by omega) (by omega) rfl by_a hr ae0)
  clear h1
  go_wp2_with fail
  refine (R1.out _ ((Ext.refl w1).alloc _) (rd_mark w1 [.int .u8 97] _ _)).mono ?_
  rintro e w2 ⟨rfl, F2, i2, -, -⟩
  have R2 := Lib.hid (fun (u : World) (x : Ext w2 u) (hr : Rd u (some ⟨w2.heap.size, 0, none⟩) (vals .u8 [97])) => sin_start_lit w u F2 gx 1 1 3 [97] 2 1 3 aw1 _ 1 1 (i2.ext x) rfl rfl (by omega) (by omega) (by omega) (by omega) rfl by_a hr ae1)
  clear i2
  go_wp2_with fail
  refine (R2.out _ ((Ext.refl w2).alloc _) (rd_mark w2 [.int .u8 97] _ _)).mono ?_
  rintro e w3 ⟨rfl, F3, i3, -, -⟩
  have R3 := Lib.hid (sin_step_lit w w3 F3 gx 1 0 0 0 0 false 0 aw2 aw3 i3 rfl (by omega) ai2 (step_eta ar3 rfl) rfl (by omega))
  clear i3
  go_wp2_with fail
  refine R3.out.mono ?_
  rintro e w4 ⟨rfl, F4, i4, -, -⟩
  have R4 := Lib.hid (sin_step_lit w w4 F4 gx 2 1 1 0 0 false 0 aw3 aw4 i4 rfl (by omega) ai3 (step_eta ar4 rfl) rfl (by omega))
  clear i4
  go_wp2_with fail
  refine R4.out.mono ?_
  rintro e w5 ⟨rfl, F5, i5, -, -⟩
  have R5 := Lib.hid (sin_step_lit w w5 F5 gx 3 0 0 0 5 true 0 aw4 aw5 i5 rfl (by omega) ai4 (step_eta ar5 rfl) rfl (by omega))
  clear i5
  go_wp2_with fail
  refine R5.out.mono ?_
  rintro e w6 ⟨rfl, F6, i6, -, -⟩
  obtain ⟨W6, hW6⟩ : ∃ W6, w6.alloc (.cells #[.bool true, .int .i64 0, .int .i64 5] 74) = W6 := ⟨_, rfl⟩
  have x6 : Ext w6 W6 := by rw [← hW6]; exact (Ext.refl w6).alloc _
  have B6 := Lib.hid (show W6.heap[w6.heap.size]? = some (.cells #[.bool true, .int .i64 0, .int .i64 5] 74 (0, 0)) by rw [← hW6]; exact blk_new w6 _)
  have n6 : ¬ F6 w6.heap.size := fun e => Nat.lt_irrefl _ (i6.lt _ e)
  have R6 := Lib.hid (sin_step_lit w W6 F6 gx 4 1 1 0 0 false 0 aw5 aw6 (i6.ext x6) rfl (by omega) ai5 (step_eta ar6 rfl) rfl (by omega))
  clear i6
  go_wp2_with fail
  (try rw [hW6])
  clear hW6
  refine R6.out.mono ?_
  rintro e w7 ⟨rfl, F7, i7, g7, f7⟩
  have B67w := Lib.hid (g7.blk B6.out n6)
  have n7 : ¬ F7 w7.heap.size := fun e => Nat.lt_irrefl _ (i7.lt _ e)
  have n67 : ¬ F7 w6.heap.size := fun e => (f7 _ e).elim n6 (fun e => by have := blk_lt B6.out; omega)
  have hl67 : w6.heap.size < w7.heap.size := blk_lt B67w.out
  have R7 := Lib.hid (fun (u : World) (x : Ext w7 u) => sin_step_lit w u F7 gx 5 1 1 0 0 false 0 aw6 aw7 (i7.ext x) rfl (by omega) ai6 (step_eta ar7 rfl) rfl (by omega))
  clear i7 g7 f7
  go_wp2_with fail
  refine (R7.out _ ((Ext.refl w7).alloc _)).mono ?_
  rintro e w8 ⟨rfl, F8, i8, g8, f8⟩
  have B68 := Lib.hid (g8.blk (blk_past B67w.out _) n67)
  have B78 := Lib.hid (show w8.heap[w7.heap.size]? = some (.cells #[.bool false, .int .i64 0, .int .i64 0] 74 (0, 0)) from g8.blk (blk_new w7 _) n7)
  have n68 : ¬ F8 w6.heap.size := fun e => (f8 _ e).elim n67 (fun e => by rw [World.size_alloc] at e; omega)
  have n78 : ¬ F8 w7.heap.size := fun e => (f8 _ e).elim n7 (fun e => by rw [World.size_alloc] at e; omega)
  have R8 := Lib.hid (sin_step_lit w w8 F8 gx 6 1 1 0 7 true 0 aw7 aw8 i8 rfl (by omega) ai7 (step_eta ar8 rfl) rfl (by omega))
  clear i8 g8 f8
  go_wp2_with fail
  refine R8.out.mono ?_
  rintro e w9 ⟨rfl, F9, i9, g9, f9⟩
  obtain ⟨W9, hW9⟩ : ∃ W9, w9.alloc (.cells #[.bool true, .int .i64 0, .int .i64 7] 74) = W9 := ⟨_, rfl⟩
  have x9 : Ext w9 W9 := by rw [← hW9]; exact (Ext.refl w9).alloc _
  have B9 := show W9.heap[w9.heap.size]? = some (.cells #[.bool true, .int .i64 0, .int .i64 7] 74 (0, 0)) by rw [← hW9]; exact blk_new w9 _
  have B69 := blk_ext (g9.blk B68.out n68) x9
  have B79 := blk_ext (g9.blk B78.out n78) x9
  have a0 : W9.cell? ⟨w6.heap.size, 0, none⟩ = some (.bool true) := blk_cell B69 0
  have a1 : W9.cell? ⟨w6.heap.size, 1, none⟩ = some (.int .i64 0) := blk_cell B69 1
  have a2 : W9.cell? ⟨w6.heap.size, 2, none⟩ = some (.int .i64 5) := blk_cell B69 2
  have b0 : W9.cell? ⟨w7.heap.size, 0, none⟩ = some (.bool false) := blk_cell B79 0
  have b1 : W9.cell? ⟨w7.heap.size, 1, none⟩ = some (.int .i64 0) := blk_cell B79 1
  have b2 : W9.cell? ⟨w7.heap.size, 2, none⟩ = some (.int .i64 0) := blk_cell B79 2
  have c0 : W9.cell? ⟨w9.heap.size, 0, none⟩ = some (.bool true) := blk_cell B9 0
  have c1 : W9.cell? ⟨w9.heap.size, 1, none⟩ = some (.int .i64 0) := blk_cell B9 1
  have c2 : W9.cell? ⟨w9.heap.size, 2, none⟩ = some (.int .i64 7) := blk_cell B9 2
  have V := sin_version w W9 F9 gx 7 aw8 (i9.ext x9) (by omega)
  rw [av8] at V
  have V' := Lib.hid V
  have HX := Lib.hid (i9.out.trans x9)
  clear i9 g9 f9 B9 B69 B79 V
  go_upto_region 10 with fail
  (try rw [hW9])
  clear hW9
  go_wp2_with fail
  refine V'.out.mono ?_
  rintro e w10 ⟨rfl, x10⟩
  have HX10 := Lib.hid (HX.out.trans x10)
  clear x10
  go_wp2_with fail
  go_ret
  exact ⟨rfl, HX10.out⟩
end Go.Proofs.Ytlgggeeflomelaa
