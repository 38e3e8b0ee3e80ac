/- ShardNil answers true. -/
import Derived.Test.YtlgggeeflomelaaShV
import Derived.Test.YtlgggeeflomelaaFrame
namespace Go.Proofs.Ytlgggeeflomelaa
open Go.RowKit

/-- the error of what is handed to Start of a nil shard -/
def nilErr (who : Int) (op m : Nat) (val : Int) : Nat := if ¬ (0 ≤ who ∧ who < 64) ∨ op = 0 ∨ 4 < op ∨ ((op = 2 ∨ op = 3) ∧ ¬ (0 ≤ val ∧ val ≤ 4611686018427387903)) then 1 else if 256 < m then 2 else 7
theorem nil_start (w : World) (K : Option Addr) (who val : Int) (op m d : Nat) :
    Calls Try.prog 36 #[.pointer none, .int .i64 who, .int .u8 (op : Int), .slice K m d, .int .i64 val] w fun e w' => e = .returned (.int .i64 (nilErr who op m val : Int)) ∧ w = w' := by
  unfold nilErr
  by_cases hb : ArgBad who op val
  · have hb' := hb
    unfold ArgBad at hb'
    rw [if_pos hb']
    exact sstart_arg w none K who val op m d hb
  · have hw : 0 ≤ who ∧ who < 64 := Classical.byContradiction fun h => hb (.inl h)
    have h1 : 1 ≤ op := Nat.pos_of_ne_zero fun h => hb (.inr (.inl h))
    have h4 : op ≤ 4 := Nat.le_of_not_lt fun h => hb (.inr (.inr (.inl h)))
    have hv : op = 2 ∨ op = 3 → 0 ≤ val ∧ val ≤ 4611686018427387903 := fun ho => Classical.byContradiction fun h => hb (.inr (.inr (.inr ⟨ho, h⟩)))
    obtain ⟨k, rfl⟩ : ∃ k : Nat, who = (k : Int) := ⟨who.toNat, by omega⟩
    have hb' := hb
    unfold ArgBad at hb'
    rw [if_neg hb']
    by_cases hm : 256 < m
    · rw [if_pos hm]
      exact sstart_long w none K k op m d val (by omega) h1 h4 hv hm
    · rw [if_neg hm]
      exact sstart_nil w K k op m d val (by omega) h1 h4 hv (by omega)
theorem nil_dstart (w : World) (K : Option Addr) (who val : Int) (op m d : Nat) :
    Calls Try.prog 41 #[.pointer none, .int .i64 who, .int .u8 (op : Int), .slice K m d, .int .i64 val] w fun e w' => e = .returned (.int .i64 (nilErr who op m val : Int)) ∧ w = w' := by
  unfold nilErr
  by_cases hb : ArgBad who op val
  · have hb' := hb
    unfold ArgBad at hb'
    rw [if_pos hb']
    exact dstart_arg w none K who val op m d hb
  · have hw : 0 ≤ who ∧ who < 64 := Classical.byContradiction fun h => hb (.inl h)
    have h1 : 1 ≤ op := Nat.pos_of_ne_zero fun h => hb (.inr (.inl h))
    have h4 : op ≤ 4 := Nat.le_of_not_lt fun h => hb (.inr (.inr (.inl h)))
    have hv : op = 2 ∨ op = 3 → 0 ≤ val ∧ val ≤ 4611686018427387903 := fun ho => Classical.byContradiction fun h => hb (.inr (.inr (.inr ⟨ho, h⟩)))
    obtain ⟨k, rfl⟩ : ∃ k : Nat, who = (k : Int) := ⟨who.toNat, by omega⟩
    have hb' := hb
    unfold ArgBad at hb'
    rw [if_neg hb']
    by_cases hm : 256 < m
    · rw [if_pos hm]
      exact dstart_long w none K k op m d val (by omega) h1 h4 hv hm
    · rw [if_neg hm]
      exact dstart_nil w K k op m d val (by omega) h1 h4 hv (by omega)
theorem nil_step (w : World) (who : Int) : Calls Try.prog 37 #[.pointer none, .int .i64 who] w (RetE (.tuple #[.agg #[.bool false, .int .i64 0, .int .i64 0], .int .i64 ((if 0 ≤ who ∧ who < 64 then 7 else 1 : Nat) : Int)]) w) := by
  by_cases hw : 0 ≤ who ∧ who < 64
  · rw [if_pos hw]
    obtain ⟨k, rfl⟩ : ∃ k : Nat, who = (k : Int) := ⟨who.toNat, by omega⟩
    exact sstep_idle w k none (by omega) (fun u _ => spend_nil u _)
  · rw [if_neg hw]
    exact sstep_bad w none who hw
theorem nil_dstep (w : World) (who : Int) : Calls Try.prog 43 #[.pointer none, .int .i64 who] w (RetE (.tuple #[.agg #[.bool false, .int .i64 0, .int .i64 0], .int .i64 ((if 0 ≤ who ∧ who < 64 then 7 else 1 : Nat) : Int)]) w) := by
  by_cases hw : 0 ≤ who ∧ who < 64
  · rw [if_pos hw]
    obtain ⟨k, rfl⟩ : ∃ k : Nat, who = (k : Int) := ⟨who.toNat, by omega⟩
    exact dstep_nil w k (by omega)
  · rw [if_neg hw]
    exact dstep_bad w none who hw
theorem nil_entries (w : World) : Calls Try.prog 45 #[.pointer none] w fun e w' => e = .returned (.slice none 0 0) ∧ w = w' := by
  go_enter Try.func45, Try.ntmps45
  go_wp2_with fail
  go_ret
  exact ⟨rfl, rfl⟩
set_option maxHeartbeats 16000000 in
set_option maxRecDepth 100000 in
theorem shardNil_walk (w : World) (who : Int) (_wa : (Lit.int .i64 who).wf = true) (op : Nat) (_hop : op < 256) (val : Int) (_ws : (Lit.int .i64 val).wf = true) (K : Option Addr) (n c : Nat) (key : List Nat) (hl : key.length = n) (_hb : ∀ x ∈ key, x < 256) (hr : Rd w K (vals .u8 key)) (_hnc : n ≤ c) (_hz : c ≤ 140737488351232) :
    Calls Try.prog 11 #[.agg #[.int .i64 who, .int .u8 (op : Int), .slice K n c, .int .i64 val]] w (RetTrue w) := by
  have Hl := Lib.hid hl; have Hr := Lib.hid hr
  clear hl hr
  obtain ⟨W, hW⟩ : ∃ W, w.alloc (.cells #[.int .i64 who, .int .u8 (op : Int), .slice K n c, .int .i64 val] 70) = W := ⟨_, rfl⟩
  have xW : Ext w W := by rw [← hW]; exact (Ext.refl w).alloc _
  have KP := Lib.hid (show W.heap[w.heap.size]? = some (.cells #[.int .i64 who, .int .u8 (op : Int), .slice K n c, .int .i64 val] 70 (0, 0)) by rw [← hW]; exact blk_new w _)
  have XW := Lib.hid xW
  clear xW
  obtain ⟨se, Hse⟩ : ∃ x, Hid ((if 0 ≤ who ∧ who < 64 then 7 else 1 : Nat) = x) := ⟨_, rfl⟩
  have SP := Lib.hid (nil_step W who)
  have DP := Lib.hid (fun u => nil_dstep u who)
  rw [Hse.out] at SP DP
  go_enter Try.func11, Try.ntmps11
  go_upto_region 1 with fail
  (try rw [hW])
  clear hW
  have p0 : W.cell? ⟨w.heap.size, 0, none⟩ = some (.int .i64 who) := blk_cell KP.out 0
  go_wp2_with fail
  refine SP.out.mono ?_
  rintro e w3 ⟨rfl, x3⟩
  go_upto_region 3 with fail
  obtain ⟨V, hV⟩ : ∃ V, w3.alloc (.cells #[.bool false, .int .i64 0, .int .i64 0] 74) = V := ⟨_, rfl⟩
  have xV : Ext W V := by rw [← hV]; exact x3.alloc _
  have KV := Lib.hid (show V.heap[w3.heap.size]? = some (.cells #[.bool false, .int .i64 0, .int .i64 0] 74 (0, 0)) by rw [← hV]; exact blk_new w3 _)
  have XV := Lib.hid xV
  clear xV x3 p0
  rw [hV]
  clear hV
  have q0 : V.cell? ⟨w.heap.size, 0, none⟩ = some (.int .i64 who) := blk_cell (blk_ext KP.out XV.out) 0
  go_wp2_with fail
  refine (DP.out V).mono ?_
  rintro e w4 ⟨rfl, x4⟩
  go_upto_region 4 with fail
  obtain ⟨U, hU⟩ : ∃ U, w4.alloc (.cells #[.bool false, .int .i64 0, .int .i64 0] 86) = U := ⟨_, rfl⟩
  have xU : Ext V U := by rw [← hU]; exact x4.alloc _
  have XU := Lib.hid xU
  clear xU x4 q0
  rw [hU]
  clear hU
  have KU := Lib.hid (blk_ext KP.out (XV.out.trans XU.out)); have KR := Lib.hid (blk_ext KV.out XU.out)
  have a0 : U.cell? ⟨w.heap.size, 0, none⟩ = some (.int .i64 who) := blk_cell KU.out 0
  have a1 : U.cell? ⟨w.heap.size, 1, none⟩ = some (.int .u8 (op : Int)) := blk_cell KU.out 1
  have a2 : U.cell? ⟨w.heap.size, 2, none⟩ = some (.slice K n c) := blk_cell KU.out 2
  have a3 : U.cell? ⟨w.heap.size, 3, none⟩ = some (.int .i64 val) := blk_cell KU.out 3
  have b0 : U.cell? ⟨w3.heap.size, 0, none⟩ = some (.bool false) := blk_cell KR.out 0
  have b1 : U.cell? ⟨w3.heap.size, 1, none⟩ = some (.int .i64 0) := blk_cell KR.out 1
  have b2 : U.cell? ⟨w3.heap.size, 2, none⟩ = some (.int .i64 0) := blk_cell KR.out 2
  have XALL := Lib.hid (XW.out.trans (XV.out.trans XU.out))
  obtain ⟨er, Her⟩ : ∃ x, Hid (nilErr who op n val = x) := ⟨_, rfl⟩
  have TW := Lib.hid (fun (u : World) (x : Ext U u) => twin_any K n c key u Hl.out (by omega) (Hr.out.ext (XALL.out.trans x)))
  have ST := Lib.hid (fun (u : World) (B : Option Addr) (d : Nat) => nil_start u B who val op n d)
  have DS := Lib.hid (fun (u : World) => nil_dstart u K who val op n c)
  rw [Her.out] at ST DS
  have AW := Lib.hid (fun (u : World) => shAwake u)
  have PN := Lib.hid (fun (u : World) => spend_nil u who)
  have EN := Lib.hid (fun (u : World) => nil_entries u)
  have VN := Lib.hid (fun (u : World) => sversion_nil u)
  go_region_held3 (fun u => u.cell? ⟨w.heap.size, 0, none⟩ = some (.int .i64 who) ∧ u.cell? ⟨w.heap.size, 1, none⟩ = some (.int .u8 (op : Int)) ∧ u.cell? ⟨w.heap.size, 2, none⟩ = some (.slice K n c) ∧ u.cell? ⟨w.heap.size, 3, none⟩ = some (.int .i64 val) ∧ u.cell? ⟨w3.heap.size, 0, none⟩ = some (.bool false) ∧ u.cell? ⟨w3.heap.size, 1, none⟩ = some (.int .i64 0) ∧ u.cell? ⟨w3.heap.size, 2, none⟩ = some (.int .i64 0))
    (((try dsimp only); refine ⟨?_, ?_, ?_, ?_, ?_, ?_, ?_⟩ <;> first | (with_reducible exact drew_cell a0) | (with_reducible exact drew_cell a1) | (with_reducible exact drew_cell a2) | (with_reducible exact drew_cell a3) | (with_reducible exact drew_cell b0) | (with_reducible exact drew_cell b1) | (with_reducible exact drew_cell b2) | (with_reducible assumption)))
    (first
      | (go_at_call 32; (with_reducible refine (AW.out _).mono ?_); rintro e y1 ⟨rfl, yx1⟩; have Y1 := Lib.hid ((Ext.refl U).drew.trans yx1); have c0 := ext_cell Y1.out a0; have c1 := ext_cell Y1.out a1; have c2 := ext_cell Y1.out a2; have c3 := ext_cell Y1.out a3; have d0 := ext_cell Y1.out b0; have d1 := ext_cell Y1.out b1; have d2 := ext_cell Y1.out b2; clear yx1)
      | (go_at_call 49; (with_reducible refine (TW.out _ Y1.out).mono ?_); rintro e y2 ⟨TA, tc, rfl, -, yx2⟩; rw [Hl.out]; have Y2 := Lib.hid (Y1.out.trans yx2); have e0 := ext_cell Y2.out a0; have e1 := ext_cell Y2.out a1; have e2 := ext_cell Y2.out a2; have e3 := ext_cell Y2.out a3; have f0 := ext_cell Y2.out b0; have f1 := ext_cell Y2.out b1; have f2 := ext_cell Y2.out b2; clear yx2)
      | (go_at_call 36; (with_reducible refine (ST.out _ _ _).mono ?_); rintro e y3 ⟨rfl, rfl⟩)
      | (go_at_call 41; (with_reducible refine (DS.out _).mono ?_); rintro e y4 ⟨rfl, rfl⟩)
      | (go_at_call 35; (with_reducible refine (PN.out _).mono ?_); rintro e y5 ⟨rfl, rfl⟩)
      | (go_at_call 45; (with_reducible refine (EN.out _).mono ?_); rintro e y6 ⟨rfl, rfl⟩)
      | (go_at_call 38; (with_reducible refine (VN.out _).mono ?_); rintro e y7 ⟨rfl, yx7⟩; have Y7 := Lib.hid (Y2.out.trans yx7); have g0 := ext_cell yx7 e0; have g1 := ext_cell yx7 e1; have g2 := ext_cell yx7 e2; have g3 := ext_cell yx7 e3; have h0 := ext_cell yx7 f0; have h1 := ext_cell yx7 f1; have h2 := ext_cell yx7 f2; clear yx7))
  all_goals
    go_wp2_with fail
    go_ret
    exact retTrue (XALL.out.trans Y7.out)
end Go.Proofs.Ytlgggeeflomelaa
