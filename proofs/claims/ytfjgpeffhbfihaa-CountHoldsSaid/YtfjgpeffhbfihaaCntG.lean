/- count: Start begins a call. -/
import Derived.Test.YtfjgpeffhbfihaaCntF
namespace Go.Proofs.Ytfjgpeffhbfihaa
open Go.RowKit

def startS (lim : Nat) (op : Nat) : CallS := if op = 1 then .load lim 10 1 else if op = 2 then .load 0 5 18446744073709551615 else .read
theorem cmove_up (w : World) (F : Nat → Prop) (gc who stop : Nat) (hF : ∀ i, F i → i < w.heap.size) :
    Calls Try.prog 56 #[.pointer (some ⟨gc, 0, none⟩), .int .i64 (who : Int), .int .u64 (stop : Int), .int .i64 10, .int .u64 1] w (MoveRet w F gc who stop 10 1) := cmove_any w F gc who stop 1 10 hF
theorem cmove_down (w : World) (F : Nat → Prop) (gc who : Nat) (hF : ∀ i, F i → i < w.heap.size) :
    Calls Try.prog 56 #[.pointer (some ⟨gc, 0, none⟩), .int .i64 (who : Int), .int .u64 0, .int .i64 5, .int .u64 18446744073709551615] w (MoveRet w F gc who 0 5 18446744073709551615) := cmove_any w F gc who 0 18446744073709551615 5 hF
theorem frz_ext {w w' : World} {p : Addr} {v : Value} (x : Ext w w') (h : w.cell? p = some v) (hf : w.frozen? p = false) : w'.frozen? p = false := (x.frozen (World.block_lt_of_cell? w p h)).trans hf
theorem cgo_drew {w w' : World} {F : Nat → Prop} {gc gm lim val : Nat} {L : List AccE} {S : Nat → CallS} (h : CntGo w F gc gm lim val L S w') : CntGo w F gc gm lim val L S w'.drew := by
  obtain ⟨F', h1, h2, h3⟩ := h
  exact ⟨F', h1.ext (Ext.refl w').drew, h2.drew, h3⟩
set_option maxHeartbeats 2000000 in
set_option maxRecDepth 100000 in
theorem cstart1 (w : World) (F : Nat → Prop) (gc gm lim val who : Nat) (L : List AccE) (S : Nat → CallS) (h : CntAt w F gc gm lim val L S) (hw : who < 64) (hs : S who = .idle) :
    Calls Try.prog 27 #[.pointer (some ⟨gc, 0, none⟩), .int .i64 (who : Int), .int .u8 1] w fun e w' => e = .returned (.int .i64 0) ∧ CntGo w F gc gm lim val L (updS S who (.load lim 10 1)) w' := by
  have a3 : (0 : Int) ≤ (who : Int) := by omega
  have a4 : (who : Int) < 64 := by omega
  have hq : ∀ (u : World), (binOp .neq 126 .nilFunc .nilFunc).run Try.prog u = .ok (.bool false) u := fun _ => rfl
  have hmf := hmfC
  obtain ⟨W, hW⟩ : ∃ W, (w.alloc (.cells #[.pointer (some ⟨gc, 0, none⟩)] 60)).alloc (.cells #[.int .i64 (who : Int)] 3) = W := ⟨_, rfl⟩
  have xW : Ext w W := by rw [← hW]; exact ((Ext.refl w).alloc _).alloc _
  have K3 := Lib.hid (show W.heap[w.heap.size]? = some (.cells #[.pointer (some ⟨gc, 0, none⟩)] 60 (0, 0)) by rw [← hW]; exact blk_past (blk_new w _) _)
  have K4 := Lib.hid (show W.heap[w.heap.size + 1]? = some (.cells #[.int .i64 (who : Int)] 3 (0, 0)) by rw [← hW]; exact blk_newk _ _ (by simp))
  have H := Lib.hid h
  have hF := Lib.hid h.lt
  have h' := h.ext xW
  obtain ⟨dm, dl, ⟨v, dv, pv⟩, df⟩ := h'.cells hw
  rw [hs] at pv
  obtain rfl : v = .nilFunc := pv
  have hgc : gc < w.heap.size := World.block_lt_of_cell? w _ (h.cells hw).1
  have d3 : W.cell? ⟨w.heap.size, 0, none⟩ = some (.pointer (some ⟨gc, 0, none⟩)) := blk_cell K3.out 0
  have d4 : W.cell? ⟨w.heap.size + 1, 0, none⟩ = some (.int .i64 (who : Int)) := blk_cell K4.out 0
  have ne3 : w.heap.size ≠ gc := fun e => by omega
  have ne4 : w.heap.size + 1 ≠ gc := fun e => by omega
  clear h h' hs dm
  go_enter Try.func27, Try.ntmps27
  go_wp2_with fail
  (try rw [hW])
  refine (cworker_ok _ who a3 a4).mono ?_
  rintro e w1 ⟨rfl, rfl⟩
  go_wp2_with fail
  (try rw [hW])
  clear hW
  go_quiet (fail)
  obtain ⟨U, hU⟩ : ∃ U, W.drewN nq = U := ⟨_, rfl⟩
  have xU : Ext W U := by rw [← hU]; exact (Ext.refl W).drewN nq
  have e3 := ext_cell xU d3; have e4 := ext_cell xU d4; have el := ext_cell xU dl; have ev := ext_cell xU dv
  have ef : U.frozen? ⟨gc, 2 + who, none⟩ = false := by rw [← hU]; exact df
  have neo : (1 : Nat) ≠ 2 + who := by omega
  (try rw [hU])
  clear d3 d4 dl dv df
  go_upto_region 9 with fail
  (try rw [hU])
  clear hU
  have MV := Lib.hid (fun (u : World) (hx : Ext W u) => cmove_up u F gc who lim (fun i hi => Nat.lt_of_lt_of_le (hF.out i hi) (xW.trans hx).size))
  go_region_held3 (fun w' => w'.cell? ⟨w.heap.size, 0, none⟩ = some (.pointer (some ⟨gc, 0, none⟩)) ∧ w'.cell? ⟨w.heap.size + 1, 0, none⟩ = some (.int .i64 (who : Int)) ∧ w'.cell? ⟨gc, 1, none⟩ = some (.int .u64 (lim : Int)))
    (((try go_split_ands); refine ⟨?_, ?_, ?_⟩ <;> first | assumption | (with_reducible exact t3) | (with_reducible exact t4) | (with_reducible exact tl) | (with_reducible exact drew_cell d3) | (with_reducible exact drew_cell d4) | (with_reducible exact drew_cell dl) | (with_reducible exact e3) | (with_reducible exact e4) | (with_reducible exact el) | (with_reducible exact drew_cell e3) | (with_reducible exact drew_cell e4) | (with_reducible exact drew_cell el) | (with_reducible exact cell_other t3 ne3) | (with_reducible exact cell_other t4 ne4) | (with_reducible exact cell_off tl neo) | (with_reducible exact drew_cell (cell_other t3 ne3)) | (with_reducible exact drew_cell (cell_other t4 ne4)) | (with_reducible exact drew_cell (cell_off tl neo))))
    ((go_at_call 56; (with_reducible refine (MV.out U.drew xU.drew).mono ?_); rintro e w3 ⟨v3, rfl, pv3, x3⟩; have x3' : Ext U w3 := (Ext.refl U).drew.trans x3; have PUT := Lib.hid (CntAt.put H.out (xW.trans (xU.trans x3')) pv3); have t3 := ext_cell x3' e3; have t4 := ext_cell x3' e4; have tl := ext_cell x3' el; have tv := ext_cell x3' ev; have tf := frz_ext x3' ev ef; obtain ⟨q0, q1, q2, q3, q4, rfl, _⟩ := pv3))
  all_goals
    go_wp2_with fail
    go_ret
    exact ⟨rfl, PUT.out⟩
set_option maxHeartbeats 2000000 in
set_option maxRecDepth 100000 in
theorem cstart2 (w : World) (F : Nat → Prop) (gc gm lim val who : Nat) (L : List AccE) (S : Nat → CallS) (h : CntAt w F gc gm lim val L S) (hw : who < 64) (hs : S who = .idle) :
    Calls Try.prog 27 #[.pointer (some ⟨gc, 0, none⟩), .int .i64 (who : Int), .int .u8 2] w fun e w' => e = .returned (.int .i64 0) ∧ CntGo w F gc gm lim val L (updS S who (.load 0 5 18446744073709551615)) w' := by
  have a3 : (0 : Int) ≤ (who : Int) := by omega
  have a4 : (who : Int) < 64 := by omega
  have hq : ∀ (u : World), (binOp .neq 126 .nilFunc .nilFunc).run Try.prog u = .ok (.bool false) u := fun _ => rfl
  have hmf := hmfC
  obtain ⟨W, hW⟩ : ∃ W, (w.alloc (.cells #[.pointer (some ⟨gc, 0, none⟩)] 60)).alloc (.cells #[.int .i64 (who : Int)] 3) = W := ⟨_, rfl⟩
  have xW : Ext w W := by rw [← hW]; exact ((Ext.refl w).alloc _).alloc _
  have K3 := Lib.hid (show W.heap[w.heap.size]? = some (.cells #[.pointer (some ⟨gc, 0, none⟩)] 60 (0, 0)) by rw [← hW]; exact blk_past (blk_new w _) _)
  have K4 := Lib.hid (show W.heap[w.heap.size + 1]? = some (.cells #[.int .i64 (who : Int)] 3 (0, 0)) by rw [← hW]; exact blk_newk _ _ (by simp))
  have H := Lib.hid h
  have hF := Lib.hid h.lt
  have h' := h.ext xW
  obtain ⟨dm, dl, ⟨v, dv, pv⟩, df⟩ := h'.cells hw
  rw [hs] at pv
  obtain rfl : v = .nilFunc := pv
  have hgc : gc < w.heap.size := World.block_lt_of_cell? w _ (h.cells hw).1
  have d3 : W.cell? ⟨w.heap.size, 0, none⟩ = some (.pointer (some ⟨gc, 0, none⟩)) := blk_cell K3.out 0
  have d4 : W.cell? ⟨w.heap.size + 1, 0, none⟩ = some (.int .i64 (who : Int)) := blk_cell K4.out 0
  have ne3 : w.heap.size ≠ gc := fun e => by omega
  have ne4 : w.heap.size + 1 ≠ gc := fun e => by omega
  clear h h' hs dm
  go_enter Try.func27, Try.ntmps27
  go_wp2_with fail
  (try rw [hW])
  refine (cworker_ok _ who a3 a4).mono ?_
  rintro e w1 ⟨rfl, rfl⟩
  go_wp2_with fail
  (try rw [hW])
  clear hW
  go_quiet (fail)
  obtain ⟨U, hU⟩ : ∃ U, W.drewN nq = U := ⟨_, rfl⟩
  have xU : Ext W U := by rw [← hU]; exact (Ext.refl W).drewN nq
  have e3 := ext_cell xU d3; have e4 := ext_cell xU d4; have el := ext_cell xU dl; have ev := ext_cell xU dv
  have ef : U.frozen? ⟨gc, 2 + who, none⟩ = false := by rw [← hU]; exact df
  have neo : (1 : Nat) ≠ 2 + who := by omega
  (try rw [hU])
  clear d3 d4 dl dv df
  go_upto_region 11 with fail
  (try rw [hU])
  clear hU
  have MV := Lib.hid (fun (u : World) (hx : Ext W u) => cmove_down u F gc who (fun i hi => Nat.lt_of_lt_of_le (hF.out i hi) (xW.trans hx).size))
  go_region_held3 (fun w' => w'.cell? ⟨w.heap.size, 0, none⟩ = some (.pointer (some ⟨gc, 0, none⟩)) ∧ w'.cell? ⟨w.heap.size + 1, 0, none⟩ = some (.int .i64 (who : Int)) ∧ w'.cell? ⟨gc, 1, none⟩ = some (.int .u64 (lim : Int)))
    (((try go_split_ands); refine ⟨?_, ?_, ?_⟩ <;> first | assumption | (with_reducible exact t3) | (with_reducible exact t4) | (with_reducible exact tl) | (with_reducible exact drew_cell d3) | (with_reducible exact drew_cell d4) | (with_reducible exact drew_cell dl) | (with_reducible exact e3) | (with_reducible exact e4) | (with_reducible exact el) | (with_reducible exact drew_cell e3) | (with_reducible exact drew_cell e4) | (with_reducible exact drew_cell el) | (with_reducible exact cell_other t3 ne3) | (with_reducible exact cell_other t4 ne4) | (with_reducible exact cell_off tl neo) | (with_reducible exact drew_cell (cell_other t3 ne3)) | (with_reducible exact drew_cell (cell_other t4 ne4)) | (with_reducible exact drew_cell (cell_off tl neo))))
    ((go_at_call 56; (with_reducible refine (MV.out U.drew xU.drew).mono ?_); rintro e w3 ⟨v3, rfl, pv3, x3⟩; have x3' : Ext U w3 := (Ext.refl U).drew.trans x3; have PUT := Lib.hid (CntAt.put H.out (xW.trans (xU.trans x3')) pv3); have t3 := ext_cell x3' e3; have t4 := ext_cell x3' e4; have tl := ext_cell x3' el; have tv := ext_cell x3' ev; have tf := frz_ext x3' ev ef; obtain ⟨q0, q1, q2, q3, q4, rfl, _⟩ := pv3))
  all_goals
    go_wp2_with fail
    go_ret
    exact ⟨rfl, PUT.out⟩
set_option maxHeartbeats 2000000 in
set_option maxRecDepth 100000 in
theorem cstart3 (w : World) (F : Nat → Prop) (gc gm lim val who : Nat) (L : List AccE) (S : Nat → CallS) (h : CntAt w F gc gm lim val L S) (hw : who < 64) (hs : S who = .idle) :
    Calls Try.prog 27 #[.pointer (some ⟨gc, 0, none⟩), .int .i64 (who : Int), .int .u8 3] w fun e w' => e = .returned (.int .i64 0) ∧ CntGo w F gc gm lim val L (updS S who (.read)) w' := by
  have a3 : (0 : Int) ≤ (who : Int) := by omega
  have a4 : (who : Int) < 64 := by omega
  have hq : ∀ (u : World), (binOp .neq 126 .nilFunc .nilFunc).run Try.prog u = .ok (.bool false) u := fun _ => rfl
  have hmf := hmfC
  obtain ⟨W, hW⟩ : ∃ W, (w.alloc (.cells #[.pointer (some ⟨gc, 0, none⟩)] 60)).alloc (.cells #[.int .i64 (who : Int)] 3) = W := ⟨_, rfl⟩
  have xW : Ext w W := by rw [← hW]; exact ((Ext.refl w).alloc _).alloc _
  have K3 := Lib.hid (show W.heap[w.heap.size]? = some (.cells #[.pointer (some ⟨gc, 0, none⟩)] 60 (0, 0)) by rw [← hW]; exact blk_past (blk_new w _) _)
  have K4 := Lib.hid (show W.heap[w.heap.size + 1]? = some (.cells #[.int .i64 (who : Int)] 3 (0, 0)) by rw [← hW]; exact blk_newk _ _ (by simp))
  have H := Lib.hid h
  have hF := Lib.hid h.lt
  have h' := h.ext xW
  obtain ⟨dm, dl, ⟨v, dv, pv⟩, df⟩ := h'.cells hw
  rw [hs] at pv
  obtain rfl : v = .nilFunc := pv
  have hgc : gc < w.heap.size := World.block_lt_of_cell? w _ (h.cells hw).1
  have d3 : W.cell? ⟨w.heap.size, 0, none⟩ = some (.pointer (some ⟨gc, 0, none⟩)) := blk_cell K3.out 0
  have d4 : W.cell? ⟨w.heap.size + 1, 0, none⟩ = some (.int .i64 (who : Int)) := blk_cell K4.out 0
  have ne3 : w.heap.size ≠ gc := fun e => by omega
  have ne4 : w.heap.size + 1 ≠ gc := fun e => by omega
  clear h h' hs dm
  go_enter Try.func27, Try.ntmps27
  go_wp2_with fail
  (try rw [hW])
  refine (cworker_ok _ who a3 a4).mono ?_
  rintro e w1 ⟨rfl, rfl⟩
  go_wp2_with fail
  (try rw [hW])
  clear hW
  go_quiet (fail)
  obtain ⟨U, hU⟩ : ∃ U, W.drewN nq = U := ⟨_, rfl⟩
  have xU : Ext W U := by rw [← hU]; exact (Ext.refl W).drewN nq
  have e3 := ext_cell xU d3; have e4 := ext_cell xU d4; have el := ext_cell xU dl; have ev := ext_cell xU dv
  have ef : U.frozen? ⟨gc, 2 + who, none⟩ = false := by rw [← hU]; exact df
  have neo : (1 : Nat) ≠ 2 + who := by omega
  (try rw [hU])
  clear d3 d4 dl dv df
  go_upto_region 13 with fail
  (try rw [hU])
  clear hU
  have pv3 : PendAt U F gc who (.func (.func 57) #[] #[.pointer (some ⟨w.heap.size, 0, none⟩), .pointer (some ⟨w.heap.size + 1, 0, none⟩)]) .read := ⟨_, _, rfl, ⟨_, _, rfl, blk_ext K3.out xU, fun e => Nat.lt_irrefl _ (hF.out _ e)⟩, ⟨_, _, rfl, blk_ext K4.out xU, fun e => by have := hF.out _ e; omega⟩⟩
  have PUT := Lib.hid (CntAt.put H.out (xW.trans xU) pv3)
  clear pv3
  go_region
  all_goals
    go_wp2_with fail
    go_ret
    exact ⟨rfl, cgo_drew PUT.out⟩
end Go.Proofs.Ytfjgpeffhbfihaa
