/- ConnOrder answers true. -/
import Derived.Test.YthkdjjfnmlemdaaBConnOrder6
import Derived.BigQuiet
namespace Go.Proofs.Ythkdjjfnmlemdaa
open Go.RowKit

/-- the connection, i requests answered -/
def OrdSt (cs : List CCall) (i : Nat) (s : CSt) : Prop := s.line = cs.drop i ∧ s.out = none ∧ s.closed = false ∧ s.hung = false ∧ s.fin = 12 ∧ s.led.length ≤ i ∧ CInv s
theorem rd_far {w w' : World} {row : Option Nat} {b : Nat} {vs : List Value} (g : w.grownBy w' row) (h : Rd w (some ⟨b, 0, none⟩) vs) (hb : row ≠ some b) : Rd w' (some ⟨b, 0, none⟩) vs := h.grown g (fun a e => by injection e with e; rw [← e]; exact hb)
theorem gb67 {w w7 : World} {o : Obj} {row : Option Nat} (g : (w.alloc o).grownBy w7 row) : (∀ q, row = some q → q < w.heap.size) → w.grownBy w7 row := fun _ => ⟨g.os, g.tape, g.output, Nat.le_trans (by rw [World.size_alloc]; omega) g.size, fun i hi hn => (g.block i (by rw [World.size_alloc]; omega) hn).trans (((Ext.refl w).alloc o).block i hi)⟩
set_option maxHeartbeats 16000000 in
set_option maxRecDepth 100000 in
theorem connOrder_walk (w : World) (A : Option Addr) (n c : Nat) (R : List CallA) (hl : R.length = n) (hb : ∀ r ∈ R, CallAOk w r) (hr : Rd w A (R.flatMap callAVals)) (hnc : n ≤ c) (hz : c ≤ 1048576)
    (A1 : Option Addr) (n1 c1 : Nat) (RR : List RepA) (hl1 : RR.length = n1) (hr1 : Rd w A1 (RR.flatMap repAVals)) (_hnc1 : n1 ≤ c1) (_hz1 : c1 ≤ 1048576) (A2 : Option Addr) (n2 c2 : Nat) (us : List Nat) (hl2 : us.length = n2) (hb2 : ∀ x ∈ us, x < 256) (hr2 : Rd w A2 (vals .u8 us)) (_hnc2 : n2 ≤ c2) (_hz2 : c2 ≤ 1048576)
    (A3 : Option Addr) (n3 c3 : Nat) (xs : List Nat) (hl3 : xs.length = n3) (hb3 : ∀ x ∈ xs, x < 256) (hr3 : Rd w A3 (vals .u8 xs)) (hnc3 : n3 ≤ c3) (hz3 : c3 ≤ 1048576) :
    Calls Try.prog 11 #[.slice A n c, .slice A1 n1 c1, .slice A2 n2 c2, .slice A3 n3 c3] w (RetTrue w) := by
  have Hl := Lib.hid hl; have Hb := Lib.hid hb; have Hr := Lib.hid hr; clear hl hb hr
  have Hl1 := Lib.hid hl1; have Hr1 := Lib.hid hr1; clear hl1 hr1
  have Hl2 := Lib.hid hl2; have Hb2 := Lib.hid hb2; have Hr2 := Lib.hid hr2; clear hl2 hb2 hr2
  have Hl3 := Lib.hid hl3; have Hb3 := Lib.hid hb3; have Hr3 := Lib.hid hr3; clear hl3 hb3 hr3
  obtain ⟨nn, Hnn⟩ : ∃ nn : Nat, Hid (nn = min n 20) := ⟨_, rfl⟩
  have emin : min (n : Int) 20 = (nn : Int) := by have := Hnn.out; omega
  have hnn1 : nn ≤ n := by have := Hnn.out; omega
  have hnn2 : nn ≤ 20 := by have := Hnn.out; omega
  go_enter Try.func11, Try.ntmps11
  go_wp2_with fail
  refine (cawake _).mono ?_
  rintro e w1 ⟨rfl, x1⟩
  have X1 := Lib.hid x1
  clear x1
  go_wp2_with fail
  go_loopw [9, 11, 47] (fun av sv i wr => ∃ (k na ca ms sc : Nat) (AA SA : Option Addr) (cs : List CCall) (qs : List CallA), k ≤ nn ∧ i = .int .i64 (k : Int) ∧ av = .slice AA na ca ∧ sv = .slice SA ms sc ∧ (flatF (cs.map payC)).length = na ∧ cs.length = ms ∧ qs.length = ms ∧ ms ≤ k ∧ na ≤ 1010 * k ∧ (∀ c ∈ cs, NormC c.op c.pol c.key c.num) ∧ SameOp qs cs ∧
      wr.ownsRow w1.heap.size 5 1 (.slice AA na ca) na (vals .u8 (flatF (cs.map payC))) ∧ wr.ownsRow w1.heap.size 63 4 (.slice SA ms sc) ms (qs.flatMap callAVals) ∧ Ext w1 wr) (fun _ _ i _ => nn - (intOf i).toNat)
  case atStart => exact ⟨0, 0, 0, 0, 0, none, none, [], [], Nat.zero_le _, rfl, rfl, rfl, rfl, rfl, rfl, Nat.le_refl _, Nat.zero_le _, (fun c h => by cases h), (fun i q c h => by simp at h), World.ownsRow_nil _ _ _ _, World.ownsRow_nil _ _ _ _, Ext.refl _⟩
  case round =>
    obtain ⟨k, na, ca, ms, sc, AA, SA, cs, qs, hk, rfl, rfl, rfl, ha1, ha2, ha3, hmk, hnk, hno, hso, hoa, hos, hx⟩ := hrel
    have HA1 := Lib.hid ha1; have HA2 := Lib.hid ha2; have HA3 := Lib.hid ha3; have HNO := Lib.hid hno; have HSO := Lib.hid hso; have HOA := Lib.hid hoa; have HOS := Lib.hid hos; have HX := Lib.hid hx
    clear ha1 ha2 ha3 hno hso hoa hos hx
    by_cases hlt : k < nn
    · obtain ⟨q, hq⟩ : ∃ q, R[k]? = some q := ⟨_, List.getElem?_eq_getElem (by rw [Hl.out]; omega)⟩
      obtain ⟨hq1, hq2, hq3, hq4, hq5, hq6, hq7⟩ := Hb.out q (List.mem_of_getElem? hq)
      have hg := fun j hj => flat_get callAVals 4 R (fun _ _ => rfl) k q hq j hj
      obtain ⟨b, off, hA, hcell⟩ := (Hr.out.ext (X1.out.trans HX.out)) (fun e0 => by have := hg 0 (by omega); rw [e0] at this; simp [callAVals] at this)
      have d0 := hcell (k * 4 + 0) _ (hg 0 (by omega))
      have d1 := hcell (k * 4 + 1) _ (hg 1 (by omega))
      have d2 := hcell (k * 4 + 2) _ (hg 2 (by omega))
      have d3 := hcell (k * 4 + 3) _ (hg 3 (by omega))
      rw [← Nat.add_assoc] at d0 d1 d2 d3
      rw [Nat.add_zero] at d0
      obtain ⟨qq, Hqq⟩ : ∃ qq, Hid (qq = q) := ⟨_, rfl⟩
      obtain ⟨op, who, K, cap, key, val⟩ := q
      dsimp only at hq1 hq2 hq3 hq4 hq5 hq6 hq7 d0 d1 d2 d3
      subst hA
      obtain ⟨kl, Hkl⟩ : ∃ kl, Hid (key.length = kl) := ⟨_, rfl⟩
      rw [Hkl.out] at d2
      obtain ⟨F, hF, hF2, hC⟩ := crequest_any op hq2 who val kl key Hkl.out hq3
      obtain ⟨W, hW⟩ : ∃ W, wr.alloc (.cells #[.int .u8 (op : Int), .int .i64 who, .slice K kl cap, .int .i64 val] 63) = W := ⟨_, rfl⟩
      have xb : Ext wr W := by rw [← hW]; exact (Ext.refl wr).alloc _
      have KB := Lib.hid (show W.heap[wr.heap.size]? = some (.cells #[.int .u8 (op : Int), .int .i64 who, .slice K kl cap, .int .i64 val] 63 (0, 0)) by rw [← hW]; exact blk_new wr _)
      have RQ := Lib.hid (hC K cap W ((hq6.ext (X1.out.trans HX.out)).ext xb))
      have HF := Lib.hid hF; have HF2 := Lib.hid hF2; have HQ3 := Lib.hid hq3; have XB := Lib.hid xb
      clear hq hq1 hq2 hq3 hq4 hq5 hq6 hq7 hg hcell hF hF2 hC xb
      go_upto_region 9 with fail
      (try rw [hW])
      clear hW d0 d1 d2 d3
      have k0 := blk_cell KB.out 0; have k1 := blk_cell KB.out 1; have k2 := blk_cell KB.out 2; have k3 := blk_cell KB.out 3
      cases F with
      | none =>
        unfold RetFr at RQ
        dsimp only at RQ
        go_wp2_with fail
        refine RQ.out.mono ?_
        rintro e w5 ⟨rfl, x5⟩
        have X5 := Lib.hid (XB.out.trans x5)
        clear x5
        go_wp2_with fail
        go_roundw
        case rel => exact ⟨k + 1, na, ca, ms, sc, AA, SA, cs, qs, hlt, by go_num, rfl, rfl, HA1.out, HA2.out, HA3.out, by omega, by omega, HNO.out, HSO.out, own_ext HOA.out X5.out, own_ext HOS.out X5.out, HX.out.trans X5.out⟩
        case measure => simp [intOf]; omega
      | some L =>
        unfold RetFr at RQ
        dsimp only at RQ
        obtain ⟨ln, Hln⟩ : ∃ ln, Hid (L.length = ln) := ⟨_, rfl⟩
        rw [Hln.out] at RQ
        have hln : ln ≤ 1010 := by rw [← Hln.out]; exact (HF2.out L rfl).1
        obtain ⟨cl, hcn, hfr, hop⟩ : ∃ cl : CCall, NormC cl.op cl.pol cl.key cl.num ∧ frameOf cl = L ∧ cl.op = op := by
          rcases HF.out with ⟨h, _⟩ | ⟨P, M, _, _, h3, h4⟩
          · cases h
          · obtain ⟨cl, k1, k2, k3, -⟩ := norm_of h3 HQ3.out
            injection h4 with h4
            exact ⟨cl, k1, by unfold frameOf; rw [k2, h4], k3⟩
        have HCN := Lib.hid hcn; have HFR := Lib.hid hfr; have HOP := Lib.hid hop
        clear hcn hfr hop
        go_wp2_with fail
        refine RQ.out.mono ?_
        rintro e w5 ⟨g5, c5, rfl, o5, x5⟩
        have X5 := Lib.hid x5
        have R5 := Lib.hid (Rd.of_own o5)
        have K5 := Lib.hid (blk_ext KB.out x5)
        have OA5 := Lib.hid (own_ext HOA.out (XB.out.trans x5)); have OS5 := Lib.hid (own_ext HOS.out (XB.out.trans x5))
        have hwz : w1.heap.size ≤ wr.heap.size := HX.out.size
        have hw5 : wr.heap.size < w5.heap.size := blk_lt K5.out
        have nba : (Value.slice AA na ca).ownBlock ≠ some wr.heap.size := fun e => by have := (HOA.out.lt _ e).2; omega
        have nbs : (Value.slice SA ms sc).ownBlock ≠ some wr.heap.size := fun e => by have := (HOS.out.lt _ e).2; omega
        clear x5 o5 k0 k1 k2 k3
        have e0 : w5.cell? ⟨wr.heap.size, 0, none⟩ = some (.int .u8 (op : Int)) := blk_cell K5.out 0
        have e1 : w5.cell? ⟨wr.heap.size, 1, none⟩ = some (.int .i64 who) := blk_cell K5.out 1
        have e2 : w5.cell? ⟨wr.heap.size, 2, none⟩ = some (.slice K kl cap) := blk_cell K5.out 2
        have e3 : w5.cell? ⟨wr.heap.size, 3, none⟩ = some (.int .i64 val) := blk_cell K5.out 3
        have hwd : w1.heap.size ≤ w5.drew.heap.size := by show _ ≤ w5.heap.size; omega
        have xdr : Ext w5 (w5.drew.alloc (.cells #[.int .u8 (op : Int), .int .i64 who, .slice K kl cap, .int .i64 val] 63)) := (Ext.refl w5).drew.alloc _
        have hwe : w1.heap.size ≤ (w5.drew.alloc (.cells #[.int .u8 (op : Int), .int .i64 who, .slice K kl cap, .int .i64 val] 63)).heap.size := Nat.le_trans hwd xdr.size
        have nas : ∀ q, (Value.slice SA ms sc).ownBlock = some q → ¬ (Value.slice AA na ca).ownBlock = some q := fun q e e2 => (own_types OS5.out OA5.out (by decide)).elim (fun h => by rw [h] at e; cases e) (fun h => h (by rw [e, e2]))
        go_upto_region 11 with fail
        go_region_held3 (fun u => u.cell? ⟨wr.heap.size, 0, none⟩ = some (.int .u8 (op : Int)) ∧ u.cell? ⟨wr.heap.size, 1, none⟩ = some (.int .i64 who) ∧ u.cell? ⟨wr.heap.size, 2, none⟩ = some (.slice K kl cap) ∧ u.cell? ⟨wr.heap.size, 3, none⟩ = some (.int .i64 val))
          (((try dsimp only); refine ⟨?_, ?_, ?_, ?_⟩ <;> first | (with_reducible assumption) | (with_reducible exact drew_cell e0) | (with_reducible exact drew_cell e1) | (with_reducible exact drew_cell e2) | (with_reducible exact drew_cell e3) | (with_reducible exact ext_cell ((Ext.refl _).drew.alloc _) e0) | (with_reducible exact ext_cell ((Ext.refl _).drew.alloc _) e1) | (with_reducible exact ext_cell ((Ext.refl _).drew.alloc _) e2) | (with_reducible exact ext_cell ((Ext.refl _).drew.alloc _) e3) | (with_reducible exact ext_cell ((Ext.refl _).alloc _) s0) | (with_reducible exact ext_cell ((Ext.refl _).alloc _) s1) | (with_reducible exact ext_cell ((Ext.refl _).alloc _) s2) | (with_reducible exact ext_cell ((Ext.refl _).alloc _) s3)))
          (first
            | (refine step_app_u8 w5.drew rfl (.tmp 55) (.tmp 56) rfl w1.heap.size (B := AA) (n := na) (cb := ca) (xs := flatF (cs.map payC)) (by rfl) (own_drew OA5.out) (A := some ⟨g5, 0, none⟩) (m := ln) (c := c5) (news := L) (by rfl) Hln.out (Rd.drew R5.out) (by omega) hwd ?_; intro B6 cb6 w6 o6 g6 b6; have s0 := g6.cell (drew_cell e0) nba.symm; have s1 := g6.cell (drew_cell e1) nba.symm; have s2 := g6.cell (drew_cell e2) nba.symm; have s3 := g6.cell (drew_cell e3) nba.symm; have O6 := Lib.hid o6; have XG := Lib.hid (show GB w5 w6 (fun b => (Value.slice AA na ca).ownBlock = some b) from (GB.refl w5 _).drew.grown g6 (fun q e => .inl e)); have B6h := Lib.hid (show (Value.slice B6 (na + ln) cb6).ownBlock = (Value.slice AA na ca).ownBlock ∨ (∀ b, (Value.slice B6 (na + ln) cb6).ownBlock = some b → w5.heap.size ≤ b) from b6.imp id (fun h9 b e => by rw [h9] at e; injection e with e; rw [← e]; exact Nat.le_refl _)); clear o6 g6 b6)
            | (refine step_app_u8 (w5.drew.alloc (.cells #[.int .u8 (op : Int), .int .i64 who, .slice K kl cap, .int .i64 val] 63)) rfl (.tmp 55) (.tmp 56) rfl w1.heap.size (B := AA) (n := na) (cb := ca) (xs := flatF (cs.map payC)) (by rfl) (own_ext OA5.out xdr) (A := some ⟨g5, 0, none⟩) (m := ln) (c := c5) (news := L) (by rfl) Hln.out (R5.out.ext xdr) (by omega) hwe ?_; intro B6 cb6 w6 o6 g6 b6; have s0 := g6.cell (ext_cell xdr e0) nba.symm; have s1 := g6.cell (ext_cell xdr e1) nba.symm; have s2 := g6.cell (ext_cell xdr e2) nba.symm; have s3 := g6.cell (ext_cell xdr e3) nba.symm; have O6 := Lib.hid o6; have XG := Lib.hid (show GB w5 w6 (fun b => (Value.slice AA na ca).ownBlock = some b) from (GB.of_ext _ xdr).grown g6 (fun q e => .inl e)); have RB := Lib.hid (rd_far g6 (rd_newk w5.drew [.int .u8 (op : Int), .int .i64 who, .slice K kl cap, .int .i64 val] 63 rfl) (fun e => by have := (HOA.out.lt _ e).2; have : w5.drew.heap.size = w5.heap.size := rfl; omega)); have B6h := Lib.hid (show (Value.slice B6 (na + ln) cb6).ownBlock = (Value.slice AA na ca).ownBlock ∨ (∀ b, (Value.slice B6 (na + ln) cb6).ownBlock = some b → w5.heap.size ≤ b) from b6.imp id (fun h9 b e => by rw [h9] at e; injection e with e; rw [← e]; exact xdr.size)); clear o6 g6 b6)
            | (refine step_app_crow (w6.alloc (.cells #[.int .u8 (op : Int), .int .i64 who, .slice K kl cap, .int .i64 val] 63)) rfl (.tmp 58) (.tmp 60) rfl w1.heap.size (by rfl) (own_ext (XG.out.own OS5.out nas) ((Ext.refl w6).alloc _)) (by rfl) (show Rd _ _ _ from rd_newk w6 [.int .u8 (op : Int), .int .i64 who, .slice K kl cap, .int .i64 val] _ rfl) rfl rfl rfl rfl (by omega) (Nat.le_trans (Nat.le_trans hwd XG.out.size) ((Ext.refl w6).alloc _).size) ?_; intro B7 cb7 w7 o7 g7 b7; have t0 := g7.cell (ext_cell ((Ext.refl _).alloc _) s0) nbs.symm; have t1 := g7.cell (ext_cell ((Ext.refl _).alloc _) s1) nbs.symm; have t2 := g7.cell (ext_cell ((Ext.refl _).alloc _) s2) nbs.symm; have t3 := g7.cell (ext_cell ((Ext.refl _).alloc _) s3) nbs.symm; have O7 := Lib.hid o7; have G7 := Lib.hid (show GB w5 w7 (fun b => (Value.slice AA na ca).ownBlock = some b ∨ (Value.slice SA ms sc).ownBlock = some b) from ((XG.out.more (fun b _ e => .inl e)).alloc _).grown g7 (fun q e => .inl (.inr e))); have G77 := Lib.hid (gb67 g7 (fun q e => Nat.lt_of_lt_of_le (OS5.out.lt q e).2 XG.out.size)); clear o7 g7 b7)
            | (refine step_app_crow w6 rfl (.tmp 58) (.tmp 60) rfl w1.heap.size (by rfl) (XG.out.own OS5.out nas) (by rfl) RB.out rfl rfl rfl rfl (by omega) (Nat.le_trans hwd XG.out.size) ?_; intro B7 cb7 w7 o7 g7 b7; have t0 := g7.cell s0 nbs.symm; have t1 := g7.cell s1 nbs.symm; have t2 := g7.cell s2 nbs.symm; have t3 := g7.cell s3 nbs.symm; have O7 := Lib.hid o7; have G7 := Lib.hid (show GB w5 w7 (fun b => (Value.slice AA na ca).ownBlock = some b ∨ (Value.slice SA ms sc).ownBlock = some b) from (XG.out.more (fun b _ e => .inl e)).grown g7 (fun q e => .inl (.inr e))); have G77 := Lib.hid g7; clear o7 g7 b7))
        all_goals
          have hfl : flatF ((cs ++ [cl]).map payC) = flatF (cs.map payC) ++ L := by
            rw [List.map_append, List.map_cons, List.map_nil, flatF_snoc, ← HFR.out]
            rfl
          have hql : (qs ++ [qq]).flatMap callAVals = qs.flatMap callAVals ++ [.int .u8 (op : Int), .int .i64 who, .slice K kl cap, .int .i64 val] := by
            rw [List.flatMap_append, Hqq.out, ← Hkl.out]
            simp [callAVals]
          have E7 := Lib.hid (G7.out.to_ext (HX.out.trans (XB.out.trans X5.out)) (fun b e => e.elim (fun e => (OA5.out.lt b e).1) (fun e => (OS5.out.lt b e).1)))
          have nb6 : (Value.slice B6 (na + ln) cb6).ownBlock = none ∨ (Value.slice B6 (na + ln) cb6).ownBlock ≠ (Value.slice SA ms sc).ownBlock := by
            cases e9 : (Value.slice B6 (na + ln) cb6).ownBlock with
            | none => exact .inl rfl
            | some b9 =>
              refine .inr fun e2 => ?_
              rcases B6h.out with h9 | h9
              · exact nas b9 e2.symm (by rw [← h9, e9])
              · have := h9 b9 e9; have := (HOS.out.lt b9 e2.symm).2; omega
          have O67 := Lib.hid (O6.out.kept G77.out nb6)
          go_wp2_with fail
          go_roundw
          case rel => exact ⟨k + 1, na + ln, cb6, ms + 1, cb7, B6, B7, cs ++ [cl], qs ++ [qq], hlt, by go_num, rfl, rfl, by rw [hfl, List.length_append, HA1.out, Hln.out], by rw [List.length_append, HA2.out]; rfl, by rw [List.length_append, HA3.out]; rfl, by omega, by omega, fun c hc => (List.mem_append.1 hc).elim (HNO.out c) (fun hc => by rw [List.mem_singleton.1 hc]; exact HCN.out), HSO.out.snoc (by rw [HA3.out, HA2.out]) (by rw [Hqq.out, HOP.out]), by rw [hfl]; exact O67.out, by rw [hql]; exact O7.out, E7.out⟩
          case measure => simp [intOf]; omega
    · obtain rfl : k = nn := by omega
      have hwz : w1.heap.size ≤ wr.heap.size := HX.out.size
      go_wp2_with (first
        | (at_builtin; refine app_u8 _ rfl (.tmp 63) (.tmp 64) rfl w1.heap.size rfl (own_ext HOA.out ((Ext.refl wr).alloc (.cells #[.int .u8 0, .int .u8 0, .int .u8 0, .int .u8 0] 5))) rfl (m := 4) (news := [0, 0, 0, 0]) rfl (rd_new wr [.int .u8 0, .int .u8 0, .int .u8 0, .int .u8 0] _) (by omega) (by rw [World.size_alloc]; omega) ?_; intro B5 cb5 w5 o5 g5 b5; have x5 : Ext w1 w5 := (HX.out.alloc _).grown g5 (fun q e => (HOA.out.lt q e).1); have O5 := Lib.hid o5; have X5 := Lib.hid x5; have OS5 := Lib.hid (show w5.ownsRow w1.heap.size 63 4 (.slice SA ms sc) ms (qs.flatMap callAVals) from (own_ext HOS.out ((Ext.refl wr).alloc _)).kept g5 (own_types HOS.out HOA.out (by decide))); have B5h := Lib.hid (show ∀ q, (Value.slice B5 (na + 4) cb5).ownBlock = some q → (Value.slice SA ms sc).ownBlock ≠ some q from fun q e e2 => (own_types OS5.out O5.out (by decide)).elim (fun h => by rw [h] at e2; cases e2) (fun h => h (by rw [e2, e]))); clear o5 g5 b5 x5)
        | (at_builtin; refine app_u8 _ rfl (.tmp 66) (.tmp 67) rfl w1.heap.size rfl O5.out rfl Hl3.out (Hr3.out.ext (X1.out.trans X5.out)) (by omega) X5.out.size ?_; intro B6 cb6 w6 o6 g6 b6; have x6 : Ext w1 w6 := X5.out.grown g6 (fun q e => (O5.out.lt q e).1); have O6 := Lib.hid o6; have X6 := Lib.hid x6; have OS6 := Lib.hid (show w6.ownsRow w1.heap.size 63 4 (.slice SA ms sc) ms (qs.flatMap callAVals) from OS5.out.kept g6 (own_types OS5.out O5.out (by decide))); clear o6 g6 b6 x6))
      obtain ⟨T, HT⟩ : ∃ T, Hid (strm cs xs = T) := ⟨_, rfl⟩
      obtain ⟨tn, Htn⟩ : ∃ tn, Hid (tn = na + 4 + n3) := ⟨_, rfl⟩
      have hTo : w6.ownsRow w1.heap.size 5 1 (.slice B6 tn cb6) tn (vals .u8 T) := by
        rw [Htn.out, ← HT.out]
        unfold strm
        rw [← List.append_assoc]
        exact O6.out
      have HTl : Hid (T.length = tn) := by
        have := hTo.1
        rw [vals_len] at this
        show T.length = tn
        omega
      have HTb : Hid (∀ x ∈ T, x < 256) := fun x hx => by
        rw [← HT.out] at hx
        unfold strm at hx
        rcases List.mem_append.1 hx with hx | hx
        · unfold flatF at hx
          obtain ⟨p, hp, hx⟩ := List.mem_flatMap.1 hx
          obtain ⟨c9, hc9, rfl⟩ := List.mem_map.1 hp
          exact (List.mem_append.1 hx).elim (len4_lt _ x) ((norm_len' (HNO.out c9 hc9)).2.2.2 x)
        · rcases List.mem_append.1 hx with hx | hx
          · simp at hx; omega
          · exact Hb3.out x hx
      have htn : tn ≤ 1010 * 20 + 4 + 1048576 := by have := Htn.out; omega
      rw [← Htn.out]
      have TR := Lib.hid (Rd.of_own hTo)
      have htc := own_cap hTo
      have TB := Lib.hid (fun b e => (hTo.lt b e).2)
      clear hTo
      refine (cin_new w6).mono ?_
      rintro e w7 ⟨gc, r, rfl, h7, x7⟩
      have H7 := Lib.hid h7; have X7 := Lib.hid x7
      clear h7 x7
      go_wp2_with fail
      go_loopw [16, 17] (fun av iv wr => ∃ (a k j : Nat), a ≤ tn ∧ av = .int .i64 (a : Int) ∧ iv = .int .i64 (k : Int) ∧ k ≤ 201 ∧ (a < tn → k ≤ 200) ∧ j ≤ a ∧ ConnIn wr w6.heap.size gc r (upS (T.take j)) [] ∧ (j = a ∨ (parse (T.take j)).2.2 = true) ∧ Ext w6 wr) (fun _ iv _ => 201 - (intOf iv).toNat)
      case atStart => exact ⟨0, 0, 0, Nat.zero_le _, rfl, rfl, by omega, fun _ => by omega, Nat.le_refl _, by rw [List.take_zero]; exact H7.out, .inl rfl, X7.out⟩
      case round =>
        obtain ⟨a, k, j, ha, rfl, rfl, hk, hk2, hja, hcn, hj, hx⟩ := hrel
        have HCN9 := Lib.hid hcn; have HJ := Lib.hid hj; have HX9 := Lib.hid hx
        clear hcn hj hx
        by_cases hat : a < tn
        · have hk200 := hk2 hat
          obtain ⟨rm, Hrm⟩ : ∃ rm, Hid (rm = tn - a) := ⟨_, rfl⟩
          have erm : (tn : Int) - (a : Int) = (rm : Int) := by have := Hrm.out; omega
          have hrm1 : 1 ≤ rm := by have := Hrm.out; omega
          by_cases hcut : k < n2 ∧ k < 200
          · obtain ⟨hc1, hc2⟩ := hcut
            obtain ⟨u, hu⟩ : ∃ u, us[k]? = some u := ⟨_, List.getElem?_eq_getElem (by rw [Hl2.out]; exact hc1)⟩
            obtain ⟨b, off, hA, hbl, d0⟩ := (Hr2.out.ext (X1.out.trans (X6.out.trans HX9.out))).at_ hu
            have hub := Hb2.out u (List.mem_of_getElem? hu)
            subst hA
            obtain ⟨m, Hm⟩ : ∃ m, Hid (m = min rm u) := ⟨_, rfl⟩
            have emm : min (rm : Int) (u : Int) = (m : Int) := by have := Hm.out; omega
            have hmr : m ≤ rm := by have := Hm.out; omega
            have hkn : (k : Int) < (n2 : Int) := by omega
            have hk2h : (k : Int) < 200 := by omega
            clear hu
            go_upto_region 23 with fail
            clear erm emm d0
            obtain ⟨d1, hd1⟩ : ∃ d1, cb6 = d1 + a := ⟨cb6 - a, by omega⟩
            obtain ⟨A9, hsl, hrd⟩ := slice_mid_any Try.underlying28 size_u8 (A := B6) (n := tn) (c := cb6) (m := m) (d := d1) a (a + m) (ki := (a : Int)) (hi := (a : Int) + (m : Int)) rfl (by omega) (by have := Hrm.out; omega) htc (by omega) hd1
            have hr9 : Rd wr A9 (vals .u8 ((T.drop a).take m)) := by
              rw [vals_take, vals_drop]
              exact hrd wr _ (by rw [vals_len, HTl.out]) (TR.out.ext HX9.out)
            have hlp : ((T.drop a).take m).length = m := by rw [List.length_take, List.length_drop, HTl.out]; have := Hrm.out; omega
            have hbp : ∀ x ∈ (T.drop a).take m, x < 256 := fun x hx => HTb.out x (List.mem_of_mem_drop (List.mem_of_mem_take hx))
            have htk : T.take (a + m) = T.take a ++ (T.drop a).take m := List.take_add
            obtain ⟨P, HP⟩ : ∃ P, Hid ((T.drop a).take m = P) := ⟨_, rfl⟩
            rw [HP.out] at hr9 hlp hbp htk
            have HR9 := Lib.hid hr9; have HLP := Lib.hid hlp; have HBP := Lib.hid hbp; have HTK := Lib.hid htk
            have ham : a + m ≤ tn := by have := Hrm.out; omega
            have RPJ := Lib.hid (read_part (cs := cs) (rest := xs) (xs := T.take j) (ys := T.drop j) HNO.out (by rw [List.take_append_drop, HT.out]))
            clear hr9 hlp hbp htk hd1 hrd
            have XR0 := Lib.hid ((Ext.refl wr).alloc (.cells #[] 5))
            go_wp2_with (first | (at_builtin; refine app_u8 _ rfl (.tmp 96) (.tmp 102) rfl wr.heap.size rfl (own0 wr) rfl HLP.out (HR9.out.ext XR0.out) (by omega) (by simp) ?_; intro B8 c8 w8 o8 g8 b8; simp only [Nat.zero_add, List.nil_append] at o8; have x8 : Ext wr w8 := (XR0.out).grown g8 (own_ge (own0 wr)); have O8 := Lib.hid o8; have X8 := Lib.hid x8; clear o8 g8 b8 x8) | fail)
            cases hcl : (parse (T.take j)).2.2 with
            | true =>
              have FC := Lib.hid (cin_feed_closed w8 w6.heap.size gc r _ [] (HCN9.out.ext X8.out) (.inr (by rw [up_bad RPJ.out.1 hcl]; decide)) B8 m c8)
              have HCL := Lib.hid hcl
              clear hcl hsl
              first | rw [Nat.zero_add] | skip
              refine FC.out.mono ?_
              rintro e w9 ⟨rfl, rfl⟩
              go_wp2_with fail
              go_roundw
              case rel => exact ⟨a + m, k + 1, j, ham, by go_num, by go_num, by omega, fun h => by omega, by omega, HCN9.out.ext X8.out, .inr HCL.out, HX9.out.trans X8.out⟩
              case measure => simp [intOf]; omega
            | false =>
              obtain rfl : j = a := HJ.out.elim id (fun h => by rw [hcl] at h; cases h)
              have hlen : (T.take j).length = j := by rw [List.length_take, HTl.out]; omega
              have FD := cin_feed w8 w6.heap.size gc r (upS (T.take j)) [] (HCN9.out.ext X8.out) (cinv_up (fun x hx => HTb.out x (List.mem_of_mem_take hx))) rfl (up_ok RPJ.out.1 hcl) hcl B8 m c8 P HLP.out HBP.out (Rd.of_own O8.out) (by have := up_len (T.take j); omega) (by
                have h1 := readL_len [] (parse (T.take j)).1
                obtain ⟨k1, -, -⟩ := parse_small (((upS (T.take j)).ws ++ P).length + 1) ((upS (T.take j)).ws ++ P) (by omega)
                have h2 := up_len (T.take j)
                have h3 := RPJ.out.2.1
                have h4 : (upS (T.take j)).line.length ≤ 0 + (parse (T.take j)).1.length := h1
                obtain ⟨q1, q2, q3, -⟩ := parse_step (xs := T.take j) (ys := P) hcl
                have h6 := (read_part (cs := cs) (rest := xs) (xs := T.take (j + m)) (ys := T.drop (j + m)) HNO.out (by rw [List.take_append_drop, HT.out])).2.1
                rw [HTK.out, q1, List.length_append] at h6
                have h7 : (upS (T.take j)).ws = leftF (T.take j) := rfl
                rw [h7]
                have := HA2.out
                omega)
              rw [up_more hcl RPJ.out.1, ← HTK.out] at FD
              have FDh := Lib.hid FD
              clear FD hcl hsl hlen
              first | rw [Nat.zero_add] | skip
              refine FDh.out.mono ?_
              rintro e w9 ⟨rfl, h9, g9⟩
              have H9 := Lib.hid h9; have G9 := Lib.hid (g9.out (HX9.out.trans X8.out))
              clear h9 g9
              go_wp2_with fail
              go_roundw
              case rel => exact ⟨j + m, k + 1, j + m, ham, by go_num, by go_num, by omega, fun h => by omega, Nat.le_refl _, H9.out, .inl rfl, G9.out⟩
              case measure => simp [intOf]; omega
          · obtain ⟨m, hm⟩ : ∃ m, m = rm := ⟨_, rfl⟩
            have kcut : ¬ ((k : Int) < (n2 : Int) ∧ (k : Int) < 200) := by omega
            subst hm
            by_cases hkn : (k : Int) < (n2 : Int)
            · have hk2h : ¬ (k : Int) < 200 := by omega
              go_upto_region 23 with fail
              clear erm kcut
              obtain ⟨d1, hd1⟩ : ∃ d1, cb6 = d1 + a := ⟨cb6 - a, by omega⟩
              obtain ⟨A9, hsl, hrd⟩ := slice_mid_any Try.underlying28 size_u8 (A := B6) (n := tn) (c := cb6) (m := m) (d := d1) a (a + m) (ki := (a : Int)) (hi := (a : Int) + (m : Int)) rfl (by omega) (by have := Hrm.out; omega) htc (by omega) hd1
              have hr9 : Rd wr A9 (vals .u8 ((T.drop a).take m)) := by
                rw [vals_take, vals_drop]
                exact hrd wr _ (by rw [vals_len, HTl.out]) (TR.out.ext HX9.out)
              have hlp : ((T.drop a).take m).length = m := by rw [List.length_take, List.length_drop, HTl.out]; have := Hrm.out; omega
              have hbp : ∀ x ∈ (T.drop a).take m, x < 256 := fun x hx => HTb.out x (List.mem_of_mem_drop (List.mem_of_mem_take hx))
              have htk : T.take (a + m) = T.take a ++ (T.drop a).take m := List.take_add
              obtain ⟨P, HP⟩ : ∃ P, Hid ((T.drop a).take m = P) := ⟨_, rfl⟩
              rw [HP.out] at hr9 hlp hbp htk
              have HR9 := Lib.hid hr9; have HLP := Lib.hid hlp; have HBP := Lib.hid hbp; have HTK := Lib.hid htk
              have ham : a + m ≤ tn := by have := Hrm.out; omega
              have RPJ := Lib.hid (read_part (cs := cs) (rest := xs) (xs := T.take j) (ys := T.drop j) HNO.out (by rw [List.take_append_drop, HT.out]))
              clear hr9 hlp hbp htk hd1 hrd
              have XR0 := Lib.hid ((Ext.refl wr).alloc (.cells #[] 5))
              go_wp2_with (first | (at_builtin; refine app_u8 _ rfl (.tmp 96) (.tmp 102) rfl wr.heap.size rfl (own0 wr) rfl HLP.out (HR9.out.ext XR0.out) (by omega) (by simp) ?_; intro B8 c8 w8 o8 g8 b8; simp only [Nat.zero_add, List.nil_append] at o8; have x8 : Ext wr w8 := (XR0.out).grown g8 (own_ge (own0 wr)); have O8 := Lib.hid o8; have X8 := Lib.hid x8; clear o8 g8 b8 x8) | fail)
              cases hcl : (parse (T.take j)).2.2 with
              | true =>
                have FC := Lib.hid (cin_feed_closed w8 w6.heap.size gc r _ [] (HCN9.out.ext X8.out) (.inr (by rw [up_bad RPJ.out.1 hcl]; decide)) B8 m c8)
                have HCL := Lib.hid hcl
                clear hcl hsl
                first | rw [Nat.zero_add] | skip
                refine FC.out.mono ?_
                rintro e w9 ⟨rfl, rfl⟩
                go_wp2_with fail
                go_roundw
                case rel => exact ⟨a + m, k + 1, j, ham, by go_num, by go_num, by omega, fun h => by have := Hrm.out; omega, by omega, HCN9.out.ext X8.out, .inr HCL.out, HX9.out.trans X8.out⟩
                case measure => simp [intOf]; omega
              | false =>
                obtain rfl : j = a := HJ.out.elim id (fun h => by rw [hcl] at h; cases h)
                have hlen : (T.take j).length = j := by rw [List.length_take, HTl.out]; omega
                have FD := cin_feed w8 w6.heap.size gc r (upS (T.take j)) [] (HCN9.out.ext X8.out) (cinv_up (fun x hx => HTb.out x (List.mem_of_mem_take hx))) rfl (up_ok RPJ.out.1 hcl) hcl B8 m c8 P HLP.out HBP.out (Rd.of_own O8.out) (by have := up_len (T.take j); omega) (by
                  have h1 := readL_len [] (parse (T.take j)).1
                  obtain ⟨k1, -, -⟩ := parse_small (((upS (T.take j)).ws ++ P).length + 1) ((upS (T.take j)).ws ++ P) (by omega)
                  have h2 := up_len (T.take j)
                  have h3 := RPJ.out.2.1
                  have h4 : (upS (T.take j)).line.length ≤ 0 + (parse (T.take j)).1.length := h1
                  obtain ⟨q1, q2, q3, -⟩ := parse_step (xs := T.take j) (ys := P) hcl
                  have h6 := (read_part (cs := cs) (rest := xs) (xs := T.take (j + m)) (ys := T.drop (j + m)) HNO.out (by rw [List.take_append_drop, HT.out])).2.1
                  rw [HTK.out, q1, List.length_append] at h6
                  have h7 : (upS (T.take j)).ws = leftF (T.take j) := rfl
                  rw [h7]
                  have := HA2.out
                  omega)
                rw [up_more hcl RPJ.out.1, ← HTK.out] at FD
                have FDh := Lib.hid FD
                clear FD hcl hsl hlen
                first | rw [Nat.zero_add] | skip
                refine FDh.out.mono ?_
                rintro e w9 ⟨rfl, h9, g9⟩
                have H9 := Lib.hid h9; have G9 := Lib.hid (g9.out (HX9.out.trans X8.out))
                clear h9 g9
                go_wp2_with fail
                go_roundw
                case rel => exact ⟨j + m, k + 1, j + m, ham, by go_num, by go_num, by omega, fun h => by have := Hrm.out; omega, Nat.le_refl _, H9.out, .inl rfl, G9.out⟩
                case measure => simp [intOf]; omega
            · go_upto_region 23 with fail
              clear erm kcut
              obtain ⟨d1, hd1⟩ : ∃ d1, cb6 = d1 + a := ⟨cb6 - a, by omega⟩
              obtain ⟨A9, hsl, hrd⟩ := slice_mid_any Try.underlying28 size_u8 (A := B6) (n := tn) (c := cb6) (m := m) (d := d1) a (a + m) (ki := (a : Int)) (hi := (a : Int) + (m : Int)) rfl (by omega) (by have := Hrm.out; omega) htc (by omega) hd1
              have hr9 : Rd wr A9 (vals .u8 ((T.drop a).take m)) := by
                rw [vals_take, vals_drop]
                exact hrd wr _ (by rw [vals_len, HTl.out]) (TR.out.ext HX9.out)
              have hlp : ((T.drop a).take m).length = m := by rw [List.length_take, List.length_drop, HTl.out]; have := Hrm.out; omega
              have hbp : ∀ x ∈ (T.drop a).take m, x < 256 := fun x hx => HTb.out x (List.mem_of_mem_drop (List.mem_of_mem_take hx))
              have htk : T.take (a + m) = T.take a ++ (T.drop a).take m := List.take_add
              obtain ⟨P, HP⟩ : ∃ P, Hid ((T.drop a).take m = P) := ⟨_, rfl⟩
              rw [HP.out] at hr9 hlp hbp htk
              have HR9 := Lib.hid hr9; have HLP := Lib.hid hlp; have HBP := Lib.hid hbp; have HTK := Lib.hid htk
              have ham : a + m ≤ tn := by have := Hrm.out; omega
              have RPJ := Lib.hid (read_part (cs := cs) (rest := xs) (xs := T.take j) (ys := T.drop j) HNO.out (by rw [List.take_append_drop, HT.out]))
              clear hr9 hlp hbp htk hd1 hrd
              have XR0 := Lib.hid ((Ext.refl wr).alloc (.cells #[] 5))
              go_wp2_with (first | (at_builtin; refine app_u8 _ rfl (.tmp 96) (.tmp 102) rfl wr.heap.size rfl (own0 wr) rfl HLP.out (HR9.out.ext XR0.out) (by omega) (by simp) ?_; intro B8 c8 w8 o8 g8 b8; simp only [Nat.zero_add, List.nil_append] at o8; have x8 : Ext wr w8 := (XR0.out).grown g8 (own_ge (own0 wr)); have O8 := Lib.hid o8; have X8 := Lib.hid x8; clear o8 g8 b8 x8) | fail)
              cases hcl : (parse (T.take j)).2.2 with
              | true =>
                have FC := Lib.hid (cin_feed_closed w8 w6.heap.size gc r _ [] (HCN9.out.ext X8.out) (.inr (by rw [up_bad RPJ.out.1 hcl]; decide)) B8 m c8)
                have HCL := Lib.hid hcl
                clear hcl hsl
                first | rw [Nat.zero_add] | skip
                refine FC.out.mono ?_
                rintro e w9 ⟨rfl, rfl⟩
                go_wp2_with fail
                go_roundw
                case rel => exact ⟨a + m, k + 1, j, ham, by go_num, by go_num, by omega, fun h => by have := Hrm.out; omega, by omega, HCN9.out.ext X8.out, .inr HCL.out, HX9.out.trans X8.out⟩
                case measure => simp [intOf]; omega
              | false =>
                obtain rfl : j = a := HJ.out.elim id (fun h => by rw [hcl] at h; cases h)
                have hlen : (T.take j).length = j := by rw [List.length_take, HTl.out]; omega
                have FD := cin_feed w8 w6.heap.size gc r (upS (T.take j)) [] (HCN9.out.ext X8.out) (cinv_up (fun x hx => HTb.out x (List.mem_of_mem_take hx))) rfl (up_ok RPJ.out.1 hcl) hcl B8 m c8 P HLP.out HBP.out (Rd.of_own O8.out) (by have := up_len (T.take j); omega) (by
                  have h1 := readL_len [] (parse (T.take j)).1
                  obtain ⟨k1, -, -⟩ := parse_small (((upS (T.take j)).ws ++ P).length + 1) ((upS (T.take j)).ws ++ P) (by omega)
                  have h2 := up_len (T.take j)
                  have h3 := RPJ.out.2.1
                  have h4 : (upS (T.take j)).line.length ≤ 0 + (parse (T.take j)).1.length := h1
                  obtain ⟨q1, q2, q3, -⟩ := parse_step (xs := T.take j) (ys := P) hcl
                  have h6 := (read_part (cs := cs) (rest := xs) (xs := T.take (j + m)) (ys := T.drop (j + m)) HNO.out (by rw [List.take_append_drop, HT.out])).2.1
                  rw [HTK.out, q1, List.length_append] at h6
                  have h7 : (upS (T.take j)).ws = leftF (T.take j) := rfl
                  rw [h7]
                  have := HA2.out
                  omega)
                rw [up_more hcl RPJ.out.1, ← HTK.out] at FD
                have FDh := Lib.hid FD
                clear FD hcl hsl hlen
                first | rw [Nat.zero_add] | skip
                refine FDh.out.mono ?_
                rintro e w9 ⟨rfl, h9, g9⟩
                have H9 := Lib.hid h9; have G9 := Lib.hid (g9.out (HX9.out.trans X8.out))
                clear h9 g9
                go_wp2_with fail
                go_roundw
                case rel => exact ⟨j + m, k + 1, j + m, ham, by go_num, by go_num, by omega, fun h => by have := Hrm.out; omega, Nat.le_refl _, H9.out, .inl rfl, G9.out⟩
                case measure => simp [intOf]; omega
        · obtain rfl : a = tn := by omega
          have rpe : (readL [] (parse (T.take j)).1).2 = false ∧ (parse (T.take j)).2.2 = true ∧ (readL [] (parse (T.take j)).1).1 = cs := by
            have h1 := read_part (cs := cs) (rest := xs) (xs := T.take j) (ys := T.drop j) HNO.out (by rw [List.take_append_drop, HT.out])
            have h2 : (parse (T.take j)).2.2 = true := by
              rcases HJ.out with h | h
              · rw [h, List.take_of_length_le (by rw [HTl.out]; exact Nat.le_refl _), ← HT.out]
                exact (parse_strm cs xs HNO.out).2
              · exact h
            exact ⟨h1.1, h2, h1.2.2 h2⟩
          have ST0 := Lib.hid (show OrdSt cs 0 (upS (T.take j)) from ⟨rpe.2.2, rfl, rfl, rfl, up_bad rpe.1 rpe.2.1, Nat.le_refl _, cinv_up (fun x hx => HTb.out x (List.mem_of_mem_take hx))⟩)
          have hwr0 : (upS (T.take j)).wr = [] := rfl
          obtain ⟨s0, Hs0⟩ : ∃ s0, Hid (upS (T.take j) = s0) := ⟨_, rfl⟩
          rw [Hs0.out] at ST0 HCN9 hwr0
          have HWR0 := Lib.hid hwr0
          clear rpe hwr0
          have h6sz : w1.heap.size ≤ w6.heap.size := X6.out.size
          have hsent : Hid (∀ b, (Value.slice SA ms sc).ownBlock = some b → b < w6.heap.size) := fun b e => (OS6.out.lt b e).2
          go_wp2_with fail
          go_loopw [10, 20, 116] (fun wv gv iv wr => ∃ (i wn wc gn gp : Nat) (WA GA : Option Addr) (ws gs : List Nat) (s : CSt), i ≤ ms ∧ iv = .int .i64 (i : Int) ∧ wv = .slice WA wn wc ∧ gv = .slice GA gn gp ∧ ws.length = wn ∧ gs.length = gn ∧ gs ++ s.wr = ws ∧ wn ≤ 38 * i ∧ (∀ x ∈ ws, x < 256) ∧
              wr.ownsRow w6.heap.size 5 1 (.slice WA wn wc) wn (vals .u8 ws) ∧ wr.ownsRow w6.heap.size 5 1 (.slice GA gn gp) gn (vals .u8 gs) ∧ (∀ b, (Value.slice WA wn wc).ownBlock = some b → (Value.slice GA gn gp).ownBlock ≠ some b) ∧
              ConnIn wr w6.heap.size gc r s ((Value.slice WA wn wc).ownBlock.toList ++ (Value.slice GA gn gp).ownBlock.toList) ∧ OrdSt cs i s ∧ Ext w6 wr) (fun _ _ iv _ => ms - (intOf iv).toNat)
          case atStart => exact ⟨0, 0, 0, 0, 0, none, none, [], [], s0, Nat.zero_le _, rfl, rfl, rfl, rfl, rfl, by rw [HWR0.out]; rfl, Nat.zero_le _, (fun x h => by cases h), World.ownsRow_nil _ _ _ _, World.ownsRow_nil _ _ _ _, (fun b e => by cases e), HCN9.out, ST0.out, HX9.out⟩
          case round =>
            obtain ⟨i, wn, wc, gn, gp, WA, GA, ws, gs, s, hi, rfl, rfl, rfl, hw1, hg1, hgw, hwn, hwb, how, hog, hap, hcn, hst, hx⟩ := hrel
            have HW1 := Lib.hid hw1; have HG1 := Lib.hid hg1; have HGW := Lib.hid hgw; have HWB := Lib.hid hwb; have HOW := Lib.hid how; have HOG := Lib.hid hog; have HAP := Lib.hid hap; have HCN := Lib.hid hcn; have HST := Lib.hid hst; have HX3 := Lib.hid hx
            clear hw1 hg1 hgw hwb how hog hap hcn hst hx
            by_cases hlt : i < ms
            · obtain ⟨cl, hcl⟩ : ∃ cl, cs[i]? = some cl := ⟨_, List.getElem?_eq_getElem (by rw [HA2.out]; exact hlt)⟩
              have hdr : cs.drop i = cl :: cs.drop (i + 1) := by
                have := List.drop_eq_getElem_cons (l := cs) (i := i) (by rw [HA2.out]; exact hlt)
                rw [this]
                have h2 := List.getElem?_eq_some_iff.1 hcl
                obtain ⟨_, h3⟩ := h2
                rw [h3]
              have hcn := HNO.out cl (List.mem_of_getElem? hcl)
              have NX := Lib.hid (cin_next wr w6.heap.size gc r s _ HCN.out HST.out.2.1 HST.out.2.2.1 cl (cs.drop (i + 1)) (by rw [HST.out.1, hdr]) (by have := (norm_len' hcn).1; omega))
              obtain ⟨qe, hqe⟩ : ∃ qe, qs[i]? = some qe := ⟨_, List.getElem?_eq_getElem (by rw [HA3.out]; exact hlt)⟩
              have hop := HSO.out i qe cl hqe hcl
              have ci5 := cinv_next (c := cl) (rest := cs.drop (i + 1)) HST.out.2.2.2.2.2.2 (by rw [HST.out.1, hdr])
              have CI5 := Lib.hid ci5
              obtain ⟨sb, hsb, hsb1, hsb2⟩ := own_some_s OS6.out (by have := own_cap OS6.out; omega)
              subst hsb
              have dop : w6.cell? ⟨sb, i * 4, none⟩ = some (.int .u8 (cl.op : Int)) := by
                have h1 := flat_get callAVals 4 qs (fun _ _ => rfl) i qe hqe 0 (by omega)
                rw [Nat.add_zero] at h1
                rw [← hop]
                exact (OS6.out.cellAt (i * 4) (show i * 4 < ms * 4 by omega)).trans h1
              have DOP := Lib.hid dop
              clear hcl hdr hcn hqe hop ci5 dop
              go_wp2_with fail
              refine NX.out.mono ?_
              rintro e w9 ⟨A9, k9, rfl, h9, g9⟩
              obtain ⟨F0, HF0⟩ : ∃ F0, Hid ((Value.slice WA wn wc).ownBlock.toList ++ (Value.slice GA gn gp).ownBlock.toList = F0) := ⟨_, rfl⟩
              rw [HF0.out] at h9 g9
              have hWF : ∀ b, (Value.slice WA wn wc).ownBlock = some b → b ∈ F0 := fun b e => by rw [← HF0.out, e]; simp
              have hGF : ∀ b, (Value.slice GA gn gp).ownBlock = some b → b ∈ F0 := fun b e => by rw [← HF0.out, e]; simp
              have hF0lt : ∀ b ∈ F0, b < wr.heap.size := fun b hb => by
                rw [← HF0.out] at hb
                rcases List.mem_append.1 hb with hb | hb
                · exact (HOW.out.lt b (by simpa using hb)).2
                · exact (HOG.out.lt b (by simpa using hb)).2
              have OW9 := Lib.hid (g9.own HOW.out hWF)
              have OG9 := Lib.hid (g9.own HOG.out hGF)
              have E9 := Lib.hid (g9.out HX3.out)
              have w9sz : wr.heap.size ≤ w9.heap.size := g9.size
              obtain ⟨opn, Hopn⟩ : ∃ opn, Hid (cl.op = opn) := ⟨_, rfl⟩
              obtain ⟨kln, Hkln⟩ : ∃ kln, Hid (cl.key.length = kln) := ⟨_, rfl⟩
              rw [Hopn.out, Hkln.out]
              rw [Hopn.out] at DOP
              obtain ⟨s5, Hs5⟩ : ∃ s5 : CSt, Hid ({ s with line := cs.drop (i + 1), out := some cl } = s5) := ⟨_, rfl⟩
              rw [Hs5.out] at h9
              have P5 : Hid (CInv s5 ∧ s5.out = some cl ∧ s5.line = cs.drop (i + 1) ∧ s5.fin = 12 ∧ s5.closed = false ∧ s5.hung = false ∧ s5.wr = s.wr ∧ s5.led.length ≤ i) := by
                rw [← Hs5.out]
                exact ⟨CI5.out, rfl, rfl, HST.out.2.2.2.2.1, HST.out.2.2.1, HST.out.2.2.2.1, rfl, HST.out.2.2.2.2.2.1⟩
              obtain ⟨wl, Hwl⟩ : ∃ wl, Hid (s5.line.length = wl) := ⟨_, rfl⟩
              have ewl : (ms : Int) - 1 - (i : Int) = (wl : Int) := by
                have := Hwl.out
                rw [P5.out.2.2.1, List.length_drop, HA2.out] at this
                omega
              go_upto_region 32 with fail
              obtain ⟨X, hX⟩ : ∃ X, w9.alloc (.cells #[.int .u8 (opn : Int), .int .i64 (cl.pol : Int), .slice A9 kln k9, .int .i64 (cl.num : Int)] 63) = X := ⟨_, rfl⟩
              have xX : Ext w9 X := by rw [← hX]; exact (Ext.refl w9).alloc _
              have KX := Lib.hid (show X.heap[w9.heap.size]? = some (.cells #[.int .u8 (opn : Int), .int .i64 (cl.pol : Int), .slice A9 kln k9, .int .i64 (cl.num : Int)] 63 (0, 0)) by rw [← hX]; exact blk_new w9 _)
              rw [hX]
              clear hX
              have hX9 := h9.ext xX
              have WT := Lib.hid (fun q => cin_waiting (X.drewN q) w6.heap.size gc r s5 F0 (hX9.ext ((Ext.refl X).drewN q)))
              rw [Hwl.out] at WT
              have dop := ext_cell (E9.out.trans xX) DOP.out
              have x0 : X.cell? ⟨w9.heap.size, 0, none⟩ = some (.int .u8 (opn : Int)) := blk_cell KX.out 0
              have HX9b := Lib.hid hX9; have XX := Lib.hid xX
              clear hX9 xX h9 g9 NX
              go_quiet ((go_at_call 51; first | exact quiet_add_eq (WT.out _) | exact quiet_eq (WT.out _)))
              go_upto_region 34 with fail
              have xY : Ext w9 (X.drewN nq) := XX.out.drewN nq
              have hY := HX9b.out.ext ((Ext.refl X).drewN nq)
              generalize X.drewN nq = Y at xY hY ⊢
              have HY := Lib.hid hY; have XY := Lib.hid xY
              have y9sz : w9.heap.size ≤ Y.heap.size := xY.size
              clear dop x0 xY hY
              go_upto_region 35 with fail
              obtain ⟨br, hbr⟩ : ∃ br, Y.heap.size = br := ⟨_, rfl⟩
              obtain ⟨Z, hZ⟩ : ∃ Z, Y.alloc (.cells #[.int .i64 0, .bool false, .int .i64 (i : Int), .int .i64 0, .int .i64 0, .int .i64 0] 74) = Z := ⟨_, rfl⟩
              have xZ : Ext Y Z := by rw [← hZ]; exact (Ext.refl Y).alloc _
              have KZ := Lib.hid (show Z.heap[br]? = some (.cells #[.int .i64 0, .bool false, .int .i64 (i : Int), .int .i64 0, .int .i64 0, .int .i64 0] 74 (0, 0)) by rw [← hZ]; exact blk_newk Y _ hbr)
              rw [hZ, hbr]
              clear hZ
              have XZ := Lib.hid xZ
              clear xZ
              have hi20 : i < 20 := by omega
              by_cases h1 : i < n1
              · obtain ⟨ρ, hρ⟩ : ∃ ρ, RR[i]? = some ρ := ⟨_, List.getElem?_eq_getElem (by rw [Hl1.out]; exact h1)⟩
                have hg := fun j hj => flat_get repAVals 6 RR (fun _ _ => rfl) i ρ hρ j hj
                obtain ⟨rb, roff, hA1, hcell⟩ := (Hr1.out.ext (X1.out.trans (X6.out.trans (E9.out.trans (XY.out.trans XZ.out))))) (fun e0 => by have := hg 0 (by omega); rw [e0] at this; simp [repAVals] at this)
                have d0 := hcell (i * 6 + 0) _ (hg 0 (by omega))
                have d1 := hcell (i * 6 + 1) _ (hg 1 (by omega))
                have d2 := hcell (i * 6 + 2) _ (hg 2 (by omega))
                have d3 := hcell (i * 6 + 3) _ (hg 3 (by omega))
                have d4 := hcell (i * 6 + 4) _ (hg 4 (by omega))
                have d5 := hcell (i * 6 + 5) _ (hg 5 (by omega))
                rw [← Nat.add_assoc] at d0 d1 d2 d3 d4 d5
                rw [Nat.add_zero] at d0
                obtain ⟨re, rg, rl, rt, rs, rn⟩ := ρ
                dsimp only at d0 d1 d2 d3 d4 d5
                subst hA1
                obtain ⟨q, B, hri, hC⟩ := rep_call re rg rl rt rs rn
                have HRI0 := Lib.hid hri; have HC := Lib.hid hC
                have hin1 : (i : Int) < (n1 : Int) := by omega
                clear hρ hg hcell hC h1
                go_wp2_with fail
                refine (HC.out Z).mono ?_
                rintro e9 w10 ⟨Ar, cr, rfl, or9, x10⟩
                have X10 := Lib.hid (XZ.out.trans x10)
                have K10 := Lib.hid (blk_ext KZ.out x10)
                have c0 := ext_cell x10 d0; have c1 := ext_cell x10 d1; have c2 := ext_cell x10 d2; have c3 := ext_cell x10 d3; have c4 := ext_cell x10 d4; have c5 := ext_cell x10 d5
                clear or9 x10 d0 d1 d2 d3 d4 d5
                rcases hri with ⟨rfl, rfl, -⟩ | ⟨rfl, he0, he16, -⟩
                · clear c0 c1 c2 c3 c4 c5 HC HRI0
                  obtain ⟨q, B, hri, hC⟩ := rep_call 0 false (i : Int) 0 0 0
                  obtain rfl : q = 0 := rep_ok hri (by decide) (by intro x hx; simp at hx; unfold okN; omega)
                  have HRI := Lib.hid hri; have WR := Lib.hid hC
                  clear hri hC
                  have z0 := blk_cell K10.out 0; have z1 := blk_cell K10.out 1; have z2 := blk_cell K10.out 2; have z3 := blk_cell K10.out 3; have z4 := blk_cell K10.out 4; have z5 := blk_cell K10.out 5
                  have HBL := Lib.hid (rep_len HRI.out)
                  go_wp2_with fail
                  refine (WR.out w10).mono ?_
                  rintro e9 wp ⟨Ap, cp, rfl, op9, xp⟩
                  rw [HBL.out] at op9 ⊢
                  have OP := Lib.hid op9; have XP := Lib.hid (X10.out.trans xp)
                  have KP := Lib.hid (blk_ext K10.out xp)
                  clear z0 z1 z2 z3 z4 z5 op9 xp
                  go_wp2_with fail
                  refine (frEncode_ok wp Ap 34 cp B (by omega) (by omega) HBL.out (Rd.of_own OP.out)).mono ?_
                  rintro e9 wf ⟨Af, cf, rfl, of9, xf⟩
                  obtain ⟨fr, Hfr⟩ : ∃ fr, Hid (len4 34 ++ B = fr) := ⟨_, rfl⟩
                  rw [Hfr.out] at of9 ⊢
                  have hfn : fr.length = 38 := by rw [← Hfr.out, List.length_append, HBL.out]; rfl
                  rw [hfn] at of9 ⊢
                  have HFN := Lib.hid hfn
                  have HFB : Hid (∀ x ∈ fr, x < 256) := fun x hx => by
                    rw [← Hfr.out] at hx
                    exact (List.mem_append.1 hx).elim (len4_lt _ x) (rep_lt HRI.out x)
                  have OF := Lib.hid of9; have XF := Lib.hid (XP.out.trans xf)
                  have KF := Lib.hid (blk_ext KP.out xf)
                  obtain ⟨F1, HF1⟩ : ∃ F1, Hid (F1 = F0 ++ (br :: (Value.slice Af 38 cf).ownBlock.toList)) := ⟨_, rfl⟩
                  have hC1 : ConnIn wf w6.heap.size gc r s5 F1 := HY.out.more XF.out (fun b hb => by
                    rw [HF1.out] at hb
                    rcases List.mem_append.1 hb with hb | hb
                    · exact .inl hb
                    · rcases List.mem_cons.1 hb with hb | hb
                      · rw [hb]; exact .inr ⟨by omega, blk_lt KF.out⟩
                      · have h9 := of9.lt b (by simpa using hb)
                        exact .inr ⟨Nat.le_trans XP.out.size h9.1, h9.2⟩)
                  have hWF1 : ∀ b, (Value.slice WA wn wc).ownBlock = some b → b ∈ F1 := fun b e => by rw [HF1.out]; exact List.mem_append_left _ (hWF b e)
                  have hGF1 : ∀ b, (Value.slice GA gn gp).ownBlock = some b → b ∈ F1 := fun b e => by rw [HF1.out]; exact List.mem_append_left _ (hGF b e)
                  have hfF1 : ∀ b, (Value.slice Af 38 cf).ownBlock = some b → b ∈ F1 := fun b e => by rw [HF1.out, e]; simp
                  have RP := Lib.hid (cin_reply wf w6.heap.size gc r s5 F1 hC1 P5.out.1 (by
                    rw [P5.out.2.2.2.2.2.2.1]
                    have h1 := congrArg List.length HGW.out
                    rw [List.length_append, HW1.out] at h1
                    omega) (by have := P5.out.2.2.2.2.2.2.2; omega) cl P5.out.2.1 0 (by omega) false (i : Int) 0 0 0)
                  clear of9 xf hC1 hfn
                  have z0 := blk_cell KF.out 0; have z1 := blk_cell KF.out 1; have z2 := blk_cell KF.out 2; have z3 := blk_cell KF.out 3; have z4 := blk_cell KF.out 4; have z5 := blk_cell KF.out 5
                  go_wp2_with fail
                  refine RP.out.mono ?_
                  rintro e9 wq ⟨q2, B2, hri2, rfl, hQ, gQ⟩
                  obtain ⟨hq0, hB0⟩ := rep_one rfl HRI.out hri2
                  subst hq0
                  subst hB0
                  rw [if_pos rfl] at hQ
                  obtain ⟨s7, Hs7⟩ : ∃ s7, Hid (repliedS s5 cl ((0 : Nat) : Int) 0 B = s7) := ⟨_, rfl⟩
                  rw [Hs7.out] at hQ
                  have ci7 := cinv_replied P5.out.1 P5.out.2.1 ((0 : Nat) : Int) 0 (rep_lt hri2)
                  have ra := replied_any (s := s5) cl ((0 : Nat) : Int) 0 B P5.out.2.2.2.2.2.1
                  rw [Hs7.out] at ci7 ra
                  rw [HBL.out, Hfr.out, P5.out.2.2.2.2.2.2.1, P5.out.2.2.1, P5.out.2.2.2.1, P5.out.2.2.2.2.1, P5.out.2.2.2.2.2.1] at ra
                  have ST7 := Lib.hid (show OrdSt cs (i + 1) s7 from ⟨ra.2.2.1, ra.2.1, ra.2.2.2.2.1, ra.2.2.2.2.2.1, ra.2.2.2.1, by have := ra.2.2.2.2.2.2; have := P5.out.2.2.2.2.2.2.2; omega, ci7⟩)
                  have SW7 := Lib.hid ra.1
                  have OWq := Lib.hid (gQ.own (own_ext OW9.out (XY.out.trans XF.out)) hWF1)
                  have OGq := Lib.hid (gQ.own (own_ext OG9.out (XY.out.trans XF.out)) hGF1)
                  have OFq := Lib.hid (gQ.own OF.out hfF1)
                  have Eq9 := Lib.hid (gQ.out (E9.out.trans (XY.out.trans XF.out)))
                  have HQ := Lib.hid hQ
                  have hwsum : wn ≤ 800 := by omega
                  clear z0 z1 z2 z3 z4 z5 hri2 hQ gQ ci7 ra
                  by_cases hpar : i % 2 = 0
                  · have ipar : ((i : Int) % 2 == 0) = true := by simp; omega
                    have HPAR := Lib.hid hpar
                    go_wp2_with (first | (at_builtin; refine app_u8 _ rfl (.tmp 184) (.tmp 185) rfl w6.heap.size rfl OWq.out rfl HFN.out (Rd.of_own OFq.out) (by omega) Eq9.out.size ?_; intro B8 cb8 w8 o8 g8 b8; have O8 := Lib.hid o8; have OG8 := Lib.hid (OGq.out.kept g8 (by cases e7 : (Value.slice GA gn gp).ownBlock with | none => exact .inl rfl | some b7 => exact .inr (fun e8 => HAP.out b7 e8.symm e7))); have E8 := Lib.hid (Eq9.out.grown g8 (fun q e => (OWq.out.lt q e).1)); have AP8 := Lib.hid (show ∀ b, (Value.slice B8 (wn + 38) cb8).ownBlock = some b → (Value.slice GA gn gp).ownBlock ≠ some b from fun b e e2 => by
                          rcases b8 with h9 | h9
                          · exact HAP.out b (h9 ▸ e) e2
                          · rw [h9] at e; injection e with e; have := (OGq.out.lt b e2).2; omega); have H8 := Lib.hid (show ConnIn w8 w6.heap.size gc r s7 ((Value.slice B8 (wn + 38) cb8).ownBlock.toList ++ (Value.slice GA gn gp).ownBlock.toList) from HQ.out.grown g8 hWF1 (fun b hb => by
                          rcases List.mem_append.1 hb with hb | hb
                          · have hb' : (Value.slice B8 (wn + 38) cb8).ownBlock = some b := by simpa using hb
                            rcases b8 with h9 | h9
                            · exact .inl (hWF1 b (h9 ▸ hb'))
                            · have hl9 := (o8.lt b hb').2
                              rw [h9] at hb'; injection hb' with hb'
                              exact .inr ⟨by omega, hl9⟩
                          · exact .inl (hGF1 b (by simpa using hb)))); clear o8 g8 b8) | fail)
                    have TK := Lib.hid (cin_take w8 w6.heap.size gc r s7 _ H8.out)
                    obtain ⟨sw, Hsw⟩ : ∃ sw, Hid (s7.wr.length = sw) := ⟨_, rfl⟩
                    rw [Hsw.out] at TK
                    have hsw : sw ≤ 1000 := by
                      rw [← Hsw.out, SW7.out, List.length_append, HFN.out]
                      have h1 := congrArg List.length HGW.out
                      rw [List.length_append, HW1.out] at h1
                      omega
                    have hgn : gn ≤ 800 := by
                      have h1 := congrArg List.length HGW.out
                      rw [List.length_append, HW1.out, HG1.out] at h1
                      omega
                    clear hpar
                    refine TK.out.mono ?_
                    rintro e9 wt ⟨WB, wd, rfl, hT, gT, oT, -⟩
                    have OWT := Lib.hid (gT.own O8.out (fun b e => by rw [e]; simp))
                    have OGT := Lib.hid (gT.own OG8.out (fun b e => by rw [e]; simp))
                    have ET := Lib.hid (gT.out E8.out)
                    have HT9 := Lib.hid hT; have OT := Lib.hid oT
                    clear hT gT oT
                    go_wp2_with (first | (at_builtin; refine app_u8 _ rfl (.tmp 190) (.tmp 192) rfl w6.heap.size rfl OGT.out rfl Hsw.out (Rd.of_own OT.out) (by omega) ET.out.size ?_; intro B11 cb11 w11 o11 g11 b11; have O11 := Lib.hid o11; have OW11 := Lib.hid (OWT.out.kept g11 (by cases e7 : (Value.slice B8 (wn + 38) cb8).ownBlock with | none => exact .inl rfl | some b7 => exact .inr (fun e8 => AP8.out b7 e7 e8.symm))); have E11 := Lib.hid (ET.out.grown g11 (fun q e => (OGT.out.lt q e).1)); have AP11 := Lib.hid (show ∀ b, (Value.slice B8 (wn + 38) cb8).ownBlock = some b → (Value.slice B11 (gn + sw) cb11).ownBlock ≠ some b from fun b e e2 => by
                        rcases b11 with h9 | h9
                        · exact AP8.out b e (h9 ▸ e2)
                        · rw [h9] at e2; injection e2 with e2; have := (OWT.out.lt b e).2; omega); have H11 := Lib.hid (show ConnIn w11 w6.heap.size gc r { s7 with wr := [] } ((Value.slice B8 (wn + 38) cb8).ownBlock.toList ++ (Value.slice B11 (gn + sw) cb11).ownBlock.toList) from HT9.out.grown g11 (fun b e => by rw [e]; simp) (fun b hb => by
                        rcases List.mem_append.1 hb with hb | hb
                        · exact .inl (List.mem_append_left _ hb)
                        · have hb' : (Value.slice B11 (gn + sw) cb11).ownBlock = some b := by simpa using hb
                          rcases b11 with h9 | h9
                          · exact .inl (List.mem_append_right _ (by rw [← h9, hb']; simp))
                          · have hl9 := (o11.lt b hb').2
                            rw [h9] at hb'; injection hb' with hb'
                            exact .inr ⟨by omega, hl9⟩)); clear o11 g11 b11) | fail)
                    go_roundw
                    case rel => exact ⟨i + 1, wn + 38, cb8, gn + sw, cb11, B8, B11, ws ++ fr, gs ++ s7.wr, { s7 with wr := [] }, hlt, by go_num, rfl, rfl, by rw [List.length_append, HW1.out, HFN.out], by rw [List.length_append, HG1.out, Hsw.out], by show gs ++ s7.wr ++ [] = ws ++ fr; rw [List.append_nil, SW7.out, ← List.append_assoc, HGW.out], by omega, (fun x hx => (List.mem_append.1 hx).elim (HWB.out x) (HFB.out x)), OW11.out, O11.out, AP11.out, H11.out, ⟨ST7.out.1, ST7.out.2.1, ST7.out.2.2.1, ST7.out.2.2.2.1, ST7.out.2.2.2.2.1, ST7.out.2.2.2.2.2.1, cinv_take ST7.out.2.2.2.2.2.2⟩, E11.out⟩
                    case measure => simp [intOf]; omega
                  · have ipar : ((i : Int) % 2 == 0) = false := by simp; omega
                    have HPAR := Lib.hid hpar
                    clear hpar
                    go_wp2_with (first | (at_builtin; refine app_u8 _ rfl (.tmp 184) (.tmp 185) rfl w6.heap.size rfl OWq.out rfl HFN.out (Rd.of_own OFq.out) (by omega) Eq9.out.size ?_; intro B8 cb8 w8 o8 g8 b8; have O8 := Lib.hid o8; have OG8 := Lib.hid (OGq.out.kept g8 (by cases e7 : (Value.slice GA gn gp).ownBlock with | none => exact .inl rfl | some b7 => exact .inr (fun e8 => HAP.out b7 e8.symm e7))); have E8 := Lib.hid (Eq9.out.grown g8 (fun q e => (OWq.out.lt q e).1)); have AP8 := Lib.hid (show ∀ b, (Value.slice B8 (wn + 38) cb8).ownBlock = some b → (Value.slice GA gn gp).ownBlock ≠ some b from fun b e e2 => by
                          rcases b8 with h9 | h9
                          · exact HAP.out b (h9 ▸ e) e2
                          · rw [h9] at e; injection e with e; have := (OGq.out.lt b e2).2; omega); have H8 := Lib.hid (show ConnIn w8 w6.heap.size gc r s7 ((Value.slice B8 (wn + 38) cb8).ownBlock.toList ++ (Value.slice GA gn gp).ownBlock.toList) from HQ.out.grown g8 hWF1 (fun b hb => by
                          rcases List.mem_append.1 hb with hb | hb
                          · have hb' : (Value.slice B8 (wn + 38) cb8).ownBlock = some b := by simpa using hb
                            rcases b8 with h9 | h9
                            · exact .inl (hWF1 b (h9 ▸ hb'))
                            · have hl9 := (o8.lt b hb').2
                              rw [h9] at hb'; injection hb' with hb'
                              exact .inr ⟨by omega, hl9⟩
                          · exact .inl (hGF1 b (by simpa using hb)))); clear o8 g8 b8) | fail)
                    go_roundw
                    case rel => exact ⟨i + 1, wn + 38, cb8, gn, gp, B8, GA, ws ++ fr, gs, s7, hlt, by go_num, rfl, rfl, by rw [List.length_append, HW1.out, HFN.out], HG1.out, by rw [SW7.out, ← List.append_assoc, HGW.out], by omega, (fun x hx => (List.mem_append.1 hx).elim (HWB.out x) (HFB.out x)), O8.out, OG8.out, AP8.out, H8.out, ST7.out, E8.out⟩
                    case measure => simp [intOf]; omega
                · obtain ⟨ek, rfl⟩ : ∃ ek : Nat, re = (ek : Int) := ⟨re.toNat, by omega⟩
                  have hek : ek ≤ 16 := by omega
                  have t0 := blk_frozen K10.out 0; have t1 := blk_frozen K10.out 1; have t2 := blk_frozen K10.out 2; have t3 := blk_frozen K10.out 3; have t4 := blk_frozen K10.out 4; have t5 := blk_frozen K10.out 5
                  have z0 := blk_cell K10.out 0; have z1 := blk_cell K10.out 1; have z2 := blk_cell K10.out 2; have z3 := blk_cell K10.out 3; have z4 := blk_cell K10.out 4; have z5 := blk_cell K10.out 5
                  go_upto_region 39 with fail
                  clear t0 t1 t2 t3 t4 t5 z0 z1 z2 z3 z4 z5 c0 c1 c2 c3 c4 c5 he0 he16
                  obtain ⟨V, hV⟩ : ∃ V, (((((w10.setCell ⟨br, 0, none⟩ (.int .i64 (ek : Int))).setCell ⟨br, 1, none⟩ (.bool rg)).setCell ⟨br, 2, none⟩ (.int .i64 rl)).setCell ⟨br, 3, none⟩ (.int .i64 rt)).setCell ⟨br, 4, none⟩ (.int .i64 rs)).setCell ⟨br, 5, none⟩ (.int .i64 rn) = V := ⟨_, rfl⟩
                  have XV := Lib.hid (show Ext Y V by rw [← hV]; exact GB.to_ext ((((((GB.refl w10 (· = br)).set br 0 _ (.inl rfl)).set br 1 _ (.inl rfl)).set br 2 _ (.inl rfl)).set br 3 _ (.inl rfl)).set br 4 _ (.inl rfl) |>.set br 5 _ (.inl rfl)) X10.out (fun b e => by omega))
                  have KV := Lib.hid (show V.heap[br]? = some (.cells #[.int .i64 (ek : Int), .bool rg, .int .i64 rl, .int .i64 rt, .int .i64 rs, .int .i64 rn] 74 (0, 0)) by rw [← hV]; exact blk_set (blk_set (blk_set (blk_set (blk_set (blk_set K10.out 0 _) 1 _) 2 _) 3 _) 4 _) 5 _)
                  rw [hV]
                  clear hV
                  have z0 := blk_cell KV.out 0; have z1 := blk_cell KV.out 1; have z2 := blk_cell KV.out 2; have z3 := blk_cell KV.out 3; have z4 := blk_cell KV.out 4; have z5 := blk_cell KV.out 5
                  have HBL := Lib.hid (rep_len HRI0.out)
                  go_wp2_with fail
                  refine (HC.out V).mono ?_
                  rintro e9 wp ⟨Ap, cp, rfl, op9, xp⟩
                  rw [HBL.out] at op9 ⊢
                  have OP := Lib.hid op9; have XP := Lib.hid (XV.out.trans xp)
                  have KP := Lib.hid (blk_ext KV.out xp)
                  clear z0 z1 z2 z3 z4 z5 op9 xp
                  go_wp2_with fail
                  refine (frEncode_ok wp Ap 34 cp B (by omega) (by omega) HBL.out (Rd.of_own OP.out)).mono ?_
                  rintro e9 wf ⟨Af, cf, rfl, of9, xf⟩
                  obtain ⟨fr, Hfr⟩ : ∃ fr, Hid (len4 34 ++ B = fr) := ⟨_, rfl⟩
                  rw [Hfr.out] at of9 ⊢
                  have hfn : fr.length = 38 := by rw [← Hfr.out, List.length_append, HBL.out]; rfl
                  rw [hfn] at of9 ⊢
                  have HFN := Lib.hid hfn
                  have HFB : Hid (∀ x ∈ fr, x < 256) := fun x hx => by
                    rw [← Hfr.out] at hx
                    exact (List.mem_append.1 hx).elim (len4_lt _ x) (rep_lt HRI0.out x)
                  have OF := Lib.hid of9; have XF := Lib.hid (XP.out.trans xf)
                  have KF := Lib.hid (blk_ext KP.out xf)
                  obtain ⟨F1, HF1⟩ : ∃ F1, Hid (F1 = F0 ++ (br :: (Value.slice Af 38 cf).ownBlock.toList)) := ⟨_, rfl⟩
                  have hC1 : ConnIn wf w6.heap.size gc r s5 F1 := HY.out.more XF.out (fun b hb => by
                    rw [HF1.out] at hb
                    rcases List.mem_append.1 hb with hb | hb
                    · exact .inl hb
                    · rcases List.mem_cons.1 hb with hb | hb
                      · rw [hb]; exact .inr ⟨by omega, blk_lt KF.out⟩
                      · have h9 := of9.lt b (by simpa using hb)
                        exact .inr ⟨Nat.le_trans XP.out.size h9.1, h9.2⟩)
                  have hWF1 : ∀ b, (Value.slice WA wn wc).ownBlock = some b → b ∈ F1 := fun b e => by rw [HF1.out]; exact List.mem_append_left _ (hWF b e)
                  have hGF1 : ∀ b, (Value.slice GA gn gp).ownBlock = some b → b ∈ F1 := fun b e => by rw [HF1.out]; exact List.mem_append_left _ (hGF b e)
                  have hfF1 : ∀ b, (Value.slice Af 38 cf).ownBlock = some b → b ∈ F1 := fun b e => by rw [HF1.out, e]; simp
                  have RP := Lib.hid (cin_reply wf w6.heap.size gc r s5 F1 hC1 P5.out.1 (by
                    rw [P5.out.2.2.2.2.2.2.1]
                    have h1 := congrArg List.length HGW.out
                    rw [List.length_append, HW1.out] at h1
                    omega) (by have := P5.out.2.2.2.2.2.2.2; omega) cl P5.out.2.1 ek hek rg rl rt rs rn)
                  clear of9 xf hC1 hfn
                  have z0 := blk_cell KF.out 0; have z1 := blk_cell KF.out 1; have z2 := blk_cell KF.out 2; have z3 := blk_cell KF.out 3; have z4 := blk_cell KF.out 4; have z5 := blk_cell KF.out 5
                  go_wp2_with fail
                  refine RP.out.mono ?_
                  rintro e9 wq ⟨q2, B2, hri2, rfl, hQ, gQ⟩
                  obtain ⟨hq0, hB0⟩ := rep_one rfl HRI0.out hri2
                  subst hq0
                  subst hB0
                  rw [if_pos rfl] at hQ
                  obtain ⟨s7, Hs7⟩ : ∃ s7, Hid (repliedS s5 cl ((ek : Nat) : Int) rs B = s7) := ⟨_, rfl⟩
                  rw [Hs7.out] at hQ
                  have ci7 := cinv_replied P5.out.1 P5.out.2.1 ((ek : Nat) : Int) rs (rep_lt hri2)
                  have ra := replied_any (s := s5) cl ((ek : Nat) : Int) rs B P5.out.2.2.2.2.2.1
                  rw [Hs7.out] at ci7 ra
                  rw [HBL.out, Hfr.out, P5.out.2.2.2.2.2.2.1, P5.out.2.2.1, P5.out.2.2.2.1, P5.out.2.2.2.2.1, P5.out.2.2.2.2.2.1] at ra
                  have ST7 := Lib.hid (show OrdSt cs (i + 1) s7 from ⟨ra.2.2.1, ra.2.1, ra.2.2.2.2.1, ra.2.2.2.2.2.1, ra.2.2.2.1, by have := ra.2.2.2.2.2.2; have := P5.out.2.2.2.2.2.2.2; omega, ci7⟩)
                  have SW7 := Lib.hid ra.1
                  have OWq := Lib.hid (gQ.own (own_ext OW9.out (XY.out.trans XF.out)) hWF1)
                  have OGq := Lib.hid (gQ.own (own_ext OG9.out (XY.out.trans XF.out)) hGF1)
                  have OFq := Lib.hid (gQ.own OF.out hfF1)
                  have Eq9 := Lib.hid (gQ.out (E9.out.trans (XY.out.trans XF.out)))
                  have HQ := Lib.hid hQ
                  have hwsum : wn ≤ 800 := by omega
                  clear z0 z1 z2 z3 z4 z5 hri2 hQ gQ ci7 ra
                  by_cases hpar : i % 2 = 0
                  · have ipar : ((i : Int) % 2 == 0) = true := by simp; omega
                    have HPAR := Lib.hid hpar
                    go_wp2_with (first | (at_builtin; refine app_u8 _ rfl (.tmp 184) (.tmp 185) rfl w6.heap.size rfl OWq.out rfl HFN.out (Rd.of_own OFq.out) (by omega) Eq9.out.size ?_; intro B8 cb8 w8 o8 g8 b8; have O8 := Lib.hid o8; have OG8 := Lib.hid (OGq.out.kept g8 (by cases e7 : (Value.slice GA gn gp).ownBlock with | none => exact .inl rfl | some b7 => exact .inr (fun e8 => HAP.out b7 e8.symm e7))); have E8 := Lib.hid (Eq9.out.grown g8 (fun q e => (OWq.out.lt q e).1)); have AP8 := Lib.hid (show ∀ b, (Value.slice B8 (wn + 38) cb8).ownBlock = some b → (Value.slice GA gn gp).ownBlock ≠ some b from fun b e e2 => by
                          rcases b8 with h9 | h9
                          · exact HAP.out b (h9 ▸ e) e2
                          · rw [h9] at e; injection e with e; have := (OGq.out.lt b e2).2; omega); have H8 := Lib.hid (show ConnIn w8 w6.heap.size gc r s7 ((Value.slice B8 (wn + 38) cb8).ownBlock.toList ++ (Value.slice GA gn gp).ownBlock.toList) from HQ.out.grown g8 hWF1 (fun b hb => by
                          rcases List.mem_append.1 hb with hb | hb
                          · have hb' : (Value.slice B8 (wn + 38) cb8).ownBlock = some b := by simpa using hb
                            rcases b8 with h9 | h9
                            · exact .inl (hWF1 b (h9 ▸ hb'))
                            · have hl9 := (o8.lt b hb').2
                              rw [h9] at hb'; injection hb' with hb'
                              exact .inr ⟨by omega, hl9⟩
                          · exact .inl (hGF1 b (by simpa using hb)))); clear o8 g8 b8) | fail)
                    have TK := Lib.hid (cin_take w8 w6.heap.size gc r s7 _ H8.out)
                    obtain ⟨sw, Hsw⟩ : ∃ sw, Hid (s7.wr.length = sw) := ⟨_, rfl⟩
                    rw [Hsw.out] at TK
                    have hsw : sw ≤ 1000 := by
                      rw [← Hsw.out, SW7.out, List.length_append, HFN.out]
                      have h1 := congrArg List.length HGW.out
                      rw [List.length_append, HW1.out] at h1
                      omega
                    have hgn : gn ≤ 800 := by
                      have h1 := congrArg List.length HGW.out
                      rw [List.length_append, HW1.out, HG1.out] at h1
                      omega
                    clear hpar
                    refine TK.out.mono ?_
                    rintro e9 wt ⟨WB, wd, rfl, hT, gT, oT, -⟩
                    have OWT := Lib.hid (gT.own O8.out (fun b e => by rw [e]; simp))
                    have OGT := Lib.hid (gT.own OG8.out (fun b e => by rw [e]; simp))
                    have ET := Lib.hid (gT.out E8.out)
                    have HT9 := Lib.hid hT; have OT := Lib.hid oT
                    clear hT gT oT
                    go_wp2_with (first | (at_builtin; refine app_u8 _ rfl (.tmp 190) (.tmp 192) rfl w6.heap.size rfl OGT.out rfl Hsw.out (Rd.of_own OT.out) (by omega) ET.out.size ?_; intro B11 cb11 w11 o11 g11 b11; have O11 := Lib.hid o11; have OW11 := Lib.hid (OWT.out.kept g11 (by cases e7 : (Value.slice B8 (wn + 38) cb8).ownBlock with | none => exact .inl rfl | some b7 => exact .inr (fun e8 => AP8.out b7 e7 e8.symm))); have E11 := Lib.hid (ET.out.grown g11 (fun q e => (OGT.out.lt q e).1)); have AP11 := Lib.hid (show ∀ b, (Value.slice B8 (wn + 38) cb8).ownBlock = some b → (Value.slice B11 (gn + sw) cb11).ownBlock ≠ some b from fun b e e2 => by
                        rcases b11 with h9 | h9
                        · exact AP8.out b e (h9 ▸ e2)
                        · rw [h9] at e2; injection e2 with e2; have := (OWT.out.lt b e).2; omega); have H11 := Lib.hid (show ConnIn w11 w6.heap.size gc r { s7 with wr := [] } ((Value.slice B8 (wn + 38) cb8).ownBlock.toList ++ (Value.slice B11 (gn + sw) cb11).ownBlock.toList) from HT9.out.grown g11 (fun b e => by rw [e]; simp) (fun b hb => by
                        rcases List.mem_append.1 hb with hb | hb
                        · exact .inl (List.mem_append_left _ hb)
                        · have hb' : (Value.slice B11 (gn + sw) cb11).ownBlock = some b := by simpa using hb
                          rcases b11 with h9 | h9
                          · exact .inl (List.mem_append_right _ (by rw [← h9, hb']; simp))
                          · have hl9 := (o11.lt b hb').2
                            rw [h9] at hb'; injection hb' with hb'
                            exact .inr ⟨by omega, hl9⟩)); clear o11 g11 b11) | fail)
                    go_roundw
                    case rel => exact ⟨i + 1, wn + 38, cb8, gn + sw, cb11, B8, B11, ws ++ fr, gs ++ s7.wr, { s7 with wr := [] }, hlt, by go_num, rfl, rfl, by rw [List.length_append, HW1.out, HFN.out], by rw [List.length_append, HG1.out, Hsw.out], by show gs ++ s7.wr ++ [] = ws ++ fr; rw [List.append_nil, SW7.out, ← List.append_assoc, HGW.out], by omega, (fun x hx => (List.mem_append.1 hx).elim (HWB.out x) (HFB.out x)), OW11.out, O11.out, AP11.out, H11.out, ⟨ST7.out.1, ST7.out.2.1, ST7.out.2.2.1, ST7.out.2.2.2.1, ST7.out.2.2.2.2.1, ST7.out.2.2.2.2.2.1, cinv_take ST7.out.2.2.2.2.2.2⟩, E11.out⟩
                    case measure => simp [intOf]; omega
                  · have ipar : ((i : Int) % 2 == 0) = false := by simp; omega
                    have HPAR := Lib.hid hpar
                    clear hpar
                    go_wp2_with (first | (at_builtin; refine app_u8 _ rfl (.tmp 184) (.tmp 185) rfl w6.heap.size rfl OWq.out rfl HFN.out (Rd.of_own OFq.out) (by omega) Eq9.out.size ?_; intro B8 cb8 w8 o8 g8 b8; have O8 := Lib.hid o8; have OG8 := Lib.hid (OGq.out.kept g8 (by cases e7 : (Value.slice GA gn gp).ownBlock with | none => exact .inl rfl | some b7 => exact .inr (fun e8 => HAP.out b7 e8.symm e7))); have E8 := Lib.hid (Eq9.out.grown g8 (fun q e => (OWq.out.lt q e).1)); have AP8 := Lib.hid (show ∀ b, (Value.slice B8 (wn + 38) cb8).ownBlock = some b → (Value.slice GA gn gp).ownBlock ≠ some b from fun b e e2 => by
                          rcases b8 with h9 | h9
                          · exact HAP.out b (h9 ▸ e) e2
                          · rw [h9] at e; injection e with e; have := (OGq.out.lt b e2).2; omega); have H8 := Lib.hid (show ConnIn w8 w6.heap.size gc r s7 ((Value.slice B8 (wn + 38) cb8).ownBlock.toList ++ (Value.slice GA gn gp).ownBlock.toList) from HQ.out.grown g8 hWF1 (fun b hb => by
                          rcases List.mem_append.1 hb with hb | hb
                          · have hb' : (Value.slice B8 (wn + 38) cb8).ownBlock = some b := by simpa using hb
                            rcases b8 with h9 | h9
                            · exact .inl (hWF1 b (h9 ▸ hb'))
                            · have hl9 := (o8.lt b hb').2
                              rw [h9] at hb'; injection hb' with hb'
                              exact .inr ⟨by omega, hl9⟩
                          · exact .inl (hGF1 b (by simpa using hb)))); clear o8 g8 b8) | fail)
                    go_roundw
                    case rel => exact ⟨i + 1, wn + 38, cb8, gn, gp, B8, GA, ws ++ fr, gs, s7, hlt, by go_num, rfl, rfl, by rw [List.length_append, HW1.out, HFN.out], HG1.out, by rw [SW7.out, ← List.append_assoc, HGW.out], by omega, (fun x hx => (List.mem_append.1 hx).elim (HWB.out x) (HFB.out x)), O8.out, OG8.out, AP8.out, H8.out, ST7.out, E8.out⟩
                    case measure => simp [intOf]; omega
              · have hin1 : ¬ (i : Int) < (n1 : Int) := by omega
                obtain ⟨q, B, hri, hC⟩ := rep_call 0 false (i : Int) 0 0 0
                obtain rfl : q = 0 := rep_ok hri (by decide) (by intro x hx; simp at hx; unfold okN; omega)
                have HRI := Lib.hid hri; have WR := Lib.hid hC
                clear hri hC h1
                have z0 := blk_cell KZ.out 0; have z1 := blk_cell KZ.out 1; have z2 := blk_cell KZ.out 2; have z3 := blk_cell KZ.out 3; have z4 := blk_cell KZ.out 4; have z5 := blk_cell KZ.out 5
                have HBL := Lib.hid (rep_len HRI.out)
                go_wp2_with fail
                refine (WR.out Z).mono ?_
                rintro e9 wp ⟨Ap, cp, rfl, op9, xp⟩
                rw [HBL.out] at op9 ⊢
                have OP := Lib.hid op9; have XP := Lib.hid (XZ.out.trans xp)
                have KP := Lib.hid (blk_ext KZ.out xp)
                clear z0 z1 z2 z3 z4 z5 op9 xp
                go_wp2_with fail
                refine (frEncode_ok wp Ap 34 cp B (by omega) (by omega) HBL.out (Rd.of_own OP.out)).mono ?_
                rintro e9 wf ⟨Af, cf, rfl, of9, xf⟩
                obtain ⟨fr, Hfr⟩ : ∃ fr, Hid (len4 34 ++ B = fr) := ⟨_, rfl⟩
                rw [Hfr.out] at of9 ⊢
                have hfn : fr.length = 38 := by rw [← Hfr.out, List.length_append, HBL.out]; rfl
                rw [hfn] at of9 ⊢
                have HFN := Lib.hid hfn
                have HFB : Hid (∀ x ∈ fr, x < 256) := fun x hx => by
                  rw [← Hfr.out] at hx
                  exact (List.mem_append.1 hx).elim (len4_lt _ x) (rep_lt HRI.out x)
                have OF := Lib.hid of9; have XF := Lib.hid (XP.out.trans xf)
                have KF := Lib.hid (blk_ext KP.out xf)
                obtain ⟨F1, HF1⟩ : ∃ F1, Hid (F1 = F0 ++ (br :: (Value.slice Af 38 cf).ownBlock.toList)) := ⟨_, rfl⟩
                have hC1 : ConnIn wf w6.heap.size gc r s5 F1 := HY.out.more XF.out (fun b hb => by
                  rw [HF1.out] at hb
                  rcases List.mem_append.1 hb with hb | hb
                  · exact .inl hb
                  · rcases List.mem_cons.1 hb with hb | hb
                    · rw [hb]; exact .inr ⟨by omega, blk_lt KF.out⟩
                    · have h9 := of9.lt b (by simpa using hb)
                      exact .inr ⟨Nat.le_trans XP.out.size h9.1, h9.2⟩)
                have hWF1 : ∀ b, (Value.slice WA wn wc).ownBlock = some b → b ∈ F1 := fun b e => by rw [HF1.out]; exact List.mem_append_left _ (hWF b e)
                have hGF1 : ∀ b, (Value.slice GA gn gp).ownBlock = some b → b ∈ F1 := fun b e => by rw [HF1.out]; exact List.mem_append_left _ (hGF b e)
                have hfF1 : ∀ b, (Value.slice Af 38 cf).ownBlock = some b → b ∈ F1 := fun b e => by rw [HF1.out, e]; simp
                have RP := Lib.hid (cin_reply wf w6.heap.size gc r s5 F1 hC1 P5.out.1 (by
                  rw [P5.out.2.2.2.2.2.2.1]
                  have h1 := congrArg List.length HGW.out
                  rw [List.length_append, HW1.out] at h1
                  omega) (by have := P5.out.2.2.2.2.2.2.2; omega) cl P5.out.2.1 0 (by omega) false (i : Int) 0 0 0)
                clear of9 xf hC1 hfn
                have z0 := blk_cell KF.out 0; have z1 := blk_cell KF.out 1; have z2 := blk_cell KF.out 2; have z3 := blk_cell KF.out 3; have z4 := blk_cell KF.out 4; have z5 := blk_cell KF.out 5
                go_wp2_with fail
                refine RP.out.mono ?_
                rintro e9 wq ⟨q2, B2, hri2, rfl, hQ, gQ⟩
                obtain ⟨hq0, hB0⟩ := rep_one rfl HRI.out hri2
                subst hq0
                subst hB0
                rw [if_pos rfl] at hQ
                obtain ⟨s7, Hs7⟩ : ∃ s7, Hid (repliedS s5 cl ((0 : Nat) : Int) 0 B = s7) := ⟨_, rfl⟩
                rw [Hs7.out] at hQ
                have ci7 := cinv_replied P5.out.1 P5.out.2.1 ((0 : Nat) : Int) 0 (rep_lt hri2)
                have ra := replied_any (s := s5) cl ((0 : Nat) : Int) 0 B P5.out.2.2.2.2.2.1
                rw [Hs7.out] at ci7 ra
                rw [HBL.out, Hfr.out, P5.out.2.2.2.2.2.2.1, P5.out.2.2.1, P5.out.2.2.2.1, P5.out.2.2.2.2.1, P5.out.2.2.2.2.2.1] at ra
                have ST7 := Lib.hid (show OrdSt cs (i + 1) s7 from ⟨ra.2.2.1, ra.2.1, ra.2.2.2.2.1, ra.2.2.2.2.2.1, ra.2.2.2.1, by have := ra.2.2.2.2.2.2; have := P5.out.2.2.2.2.2.2.2; omega, ci7⟩)
                have SW7 := Lib.hid ra.1
                have OWq := Lib.hid (gQ.own (own_ext OW9.out (XY.out.trans XF.out)) hWF1)
                have OGq := Lib.hid (gQ.own (own_ext OG9.out (XY.out.trans XF.out)) hGF1)
                have OFq := Lib.hid (gQ.own OF.out hfF1)
                have Eq9 := Lib.hid (gQ.out (E9.out.trans (XY.out.trans XF.out)))
                have HQ := Lib.hid hQ
                have hwsum : wn ≤ 800 := by omega
                clear z0 z1 z2 z3 z4 z5 hri2 hQ gQ ci7 ra
                by_cases hpar : i % 2 = 0
                · have ipar : ((i : Int) % 2 == 0) = true := by simp; omega
                  have HPAR := Lib.hid hpar
                  go_wp2_with (first | (at_builtin; refine app_u8 _ rfl (.tmp 184) (.tmp 185) rfl w6.heap.size rfl OWq.out rfl HFN.out (Rd.of_own OFq.out) (by omega) Eq9.out.size ?_; intro B8 cb8 w8 o8 g8 b8; have O8 := Lib.hid o8; have OG8 := Lib.hid (OGq.out.kept g8 (by cases e7 : (Value.slice GA gn gp).ownBlock with | none => exact .inl rfl | some b7 => exact .inr (fun e8 => HAP.out b7 e8.symm e7))); have E8 := Lib.hid (Eq9.out.grown g8 (fun q e => (OWq.out.lt q e).1)); have AP8 := Lib.hid (show ∀ b, (Value.slice B8 (wn + 38) cb8).ownBlock = some b → (Value.slice GA gn gp).ownBlock ≠ some b from fun b e e2 => by
                        rcases b8 with h9 | h9
                        · exact HAP.out b (h9 ▸ e) e2
                        · rw [h9] at e; injection e with e; have := (OGq.out.lt b e2).2; omega); have H8 := Lib.hid (show ConnIn w8 w6.heap.size gc r s7 ((Value.slice B8 (wn + 38) cb8).ownBlock.toList ++ (Value.slice GA gn gp).ownBlock.toList) from HQ.out.grown g8 hWF1 (fun b hb => by
                        rcases List.mem_append.1 hb with hb | hb
                        · have hb' : (Value.slice B8 (wn + 38) cb8).ownBlock = some b := by simpa using hb
                          rcases b8 with h9 | h9
                          · exact .inl (hWF1 b (h9 ▸ hb'))
                          · have hl9 := (o8.lt b hb').2
                            rw [h9] at hb'; injection hb' with hb'
                            exact .inr ⟨by omega, hl9⟩
                        · exact .inl (hGF1 b (by simpa using hb)))); clear o8 g8 b8) | fail)
                  have TK := Lib.hid (cin_take w8 w6.heap.size gc r s7 _ H8.out)
                  obtain ⟨sw, Hsw⟩ : ∃ sw, Hid (s7.wr.length = sw) := ⟨_, rfl⟩
                  rw [Hsw.out] at TK
                  have hsw : sw ≤ 1000 := by
                    rw [← Hsw.out, SW7.out, List.length_append, HFN.out]
                    have h1 := congrArg List.length HGW.out
                    rw [List.length_append, HW1.out] at h1
                    omega
                  have hgn : gn ≤ 800 := by
                    have h1 := congrArg List.length HGW.out
                    rw [List.length_append, HW1.out, HG1.out] at h1
                    omega
                  clear hpar
                  refine TK.out.mono ?_
                  rintro e9 wt ⟨WB, wd, rfl, hT, gT, oT, -⟩
                  have OWT := Lib.hid (gT.own O8.out (fun b e => by rw [e]; simp))
                  have OGT := Lib.hid (gT.own OG8.out (fun b e => by rw [e]; simp))
                  have ET := Lib.hid (gT.out E8.out)
                  have HT9 := Lib.hid hT; have OT := Lib.hid oT
                  clear hT gT oT
                  go_wp2_with (first | (at_builtin; refine app_u8 _ rfl (.tmp 190) (.tmp 192) rfl w6.heap.size rfl OGT.out rfl Hsw.out (Rd.of_own OT.out) (by omega) ET.out.size ?_; intro B11 cb11 w11 o11 g11 b11; have O11 := Lib.hid o11; have OW11 := Lib.hid (OWT.out.kept g11 (by cases e7 : (Value.slice B8 (wn + 38) cb8).ownBlock with | none => exact .inl rfl | some b7 => exact .inr (fun e8 => AP8.out b7 e7 e8.symm))); have E11 := Lib.hid (ET.out.grown g11 (fun q e => (OGT.out.lt q e).1)); have AP11 := Lib.hid (show ∀ b, (Value.slice B8 (wn + 38) cb8).ownBlock = some b → (Value.slice B11 (gn + sw) cb11).ownBlock ≠ some b from fun b e e2 => by
                      rcases b11 with h9 | h9
                      · exact AP8.out b e (h9 ▸ e2)
                      · rw [h9] at e2; injection e2 with e2; have := (OWT.out.lt b e).2; omega); have H11 := Lib.hid (show ConnIn w11 w6.heap.size gc r { s7 with wr := [] } ((Value.slice B8 (wn + 38) cb8).ownBlock.toList ++ (Value.slice B11 (gn + sw) cb11).ownBlock.toList) from HT9.out.grown g11 (fun b e => by rw [e]; simp) (fun b hb => by
                      rcases List.mem_append.1 hb with hb | hb
                      · exact .inl (List.mem_append_left _ hb)
                      · have hb' : (Value.slice B11 (gn + sw) cb11).ownBlock = some b := by simpa using hb
                        rcases b11 with h9 | h9
                        · exact .inl (List.mem_append_right _ (by rw [← h9, hb']; simp))
                        · have hl9 := (o11.lt b hb').2
                          rw [h9] at hb'; injection hb' with hb'
                          exact .inr ⟨by omega, hl9⟩)); clear o11 g11 b11) | fail)
                  go_roundw
                  case rel => exact ⟨i + 1, wn + 38, cb8, gn + sw, cb11, B8, B11, ws ++ fr, gs ++ s7.wr, { s7 with wr := [] }, hlt, by go_num, rfl, rfl, by rw [List.length_append, HW1.out, HFN.out], by rw [List.length_append, HG1.out, Hsw.out], by show gs ++ s7.wr ++ [] = ws ++ fr; rw [List.append_nil, SW7.out, ← List.append_assoc, HGW.out], by omega, (fun x hx => (List.mem_append.1 hx).elim (HWB.out x) (HFB.out x)), OW11.out, O11.out, AP11.out, H11.out, ⟨ST7.out.1, ST7.out.2.1, ST7.out.2.2.1, ST7.out.2.2.2.1, ST7.out.2.2.2.2.1, ST7.out.2.2.2.2.2.1, cinv_take ST7.out.2.2.2.2.2.2⟩, E11.out⟩
                  case measure => simp [intOf]; omega
                · have ipar : ((i : Int) % 2 == 0) = false := by simp; omega
                  have HPAR := Lib.hid hpar
                  clear hpar
                  go_wp2_with (first | (at_builtin; refine app_u8 _ rfl (.tmp 184) (.tmp 185) rfl w6.heap.size rfl OWq.out rfl HFN.out (Rd.of_own OFq.out) (by omega) Eq9.out.size ?_; intro B8 cb8 w8 o8 g8 b8; have O8 := Lib.hid o8; have OG8 := Lib.hid (OGq.out.kept g8 (by cases e7 : (Value.slice GA gn gp).ownBlock with | none => exact .inl rfl | some b7 => exact .inr (fun e8 => HAP.out b7 e8.symm e7))); have E8 := Lib.hid (Eq9.out.grown g8 (fun q e => (OWq.out.lt q e).1)); have AP8 := Lib.hid (show ∀ b, (Value.slice B8 (wn + 38) cb8).ownBlock = some b → (Value.slice GA gn gp).ownBlock ≠ some b from fun b e e2 => by
                        rcases b8 with h9 | h9
                        · exact HAP.out b (h9 ▸ e) e2
                        · rw [h9] at e; injection e with e; have := (OGq.out.lt b e2).2; omega); have H8 := Lib.hid (show ConnIn w8 w6.heap.size gc r s7 ((Value.slice B8 (wn + 38) cb8).ownBlock.toList ++ (Value.slice GA gn gp).ownBlock.toList) from HQ.out.grown g8 hWF1 (fun b hb => by
                        rcases List.mem_append.1 hb with hb | hb
                        · have hb' : (Value.slice B8 (wn + 38) cb8).ownBlock = some b := by simpa using hb
                          rcases b8 with h9 | h9
                          · exact .inl (hWF1 b (h9 ▸ hb'))
                          · have hl9 := (o8.lt b hb').2
                            rw [h9] at hb'; injection hb' with hb'
                            exact .inr ⟨by omega, hl9⟩
                        · exact .inl (hGF1 b (by simpa using hb)))); clear o8 g8 b8) | fail)
                  go_roundw
                  case rel => exact ⟨i + 1, wn + 38, cb8, gn, gp, B8, GA, ws ++ fr, gs, s7, hlt, by go_num, rfl, rfl, by rw [List.length_append, HW1.out, HFN.out], HG1.out, by rw [SW7.out, ← List.append_assoc, HGW.out], by omega, (fun x hx => (List.mem_append.1 hx).elim (HWB.out x) (HFB.out x)), O8.out, OG8.out, AP8.out, H8.out, ST7.out, E8.out⟩
                  case measure => simp [intOf]; omega
            · obtain rfl : i = ms := by omega
              have hdr : s.line = [] := by rw [HST.out.1, List.drop_of_length_le (by rw [HA2.out]; exact Nat.le_refl _)]
              obtain ⟨q, B, hri, hC⟩ := rep_call 12 false 0 0 0 0
              obtain rfl : q = 0 := rep_ok hri (by decide) (by intro x hx; simp at hx; unfold okN; omega)
              have HRI := Lib.hid hri; have WR := Lib.hid hC; have HDR := Lib.hid hdr
              have HBL := Lib.hid (rep_len hri)
              clear hri hC hdr
              go_wp2_with fail
              refine (WR.out _).mono ?_
              rintro e9 wp ⟨Ap, cp, rfl, op9, xp⟩
              rw [HBL.out] at op9 ⊢
              have OP := Lib.hid op9
              have XP := Lib.hid xp
              clear op9
              go_wp2_with fail
              refine (frEncode_ok wp Ap 34 cp B (by omega) (by omega) HBL.out (Rd.of_own OP.out)).mono ?_
              rintro e9 wf ⟨Af, cf, rfl, of9, xf⟩
              obtain ⟨fr, Hfr⟩ : ∃ fr, Hid (len4 34 ++ B = fr) := ⟨_, rfl⟩
              rw [Hfr.out] at of9 ⊢
              have hfn : fr.length = 38 := by rw [← Hfr.out, List.length_append, HBL.out]; rfl
              rw [hfn] at of9 ⊢
              have HFN := Lib.hid hfn
              have HFB : Hid (∀ x ∈ fr, x < 256) := fun x hx => by
                rw [← Hfr.out] at hx
                exact (List.mem_append.1 hx).elim (len4_lt _ x) (rep_lt HRI.out x)
              have OF := Lib.hid of9; have XF := Lib.hid (XP.out.trans xf)
              have hwn9 : wn ≤ 760 := by omega
              have EF := Lib.hid (HX3.out.trans XF.out)
              have hwf := XF.out.size
              clear of9 xf
              go_wp2_with (first | (at_builtin; refine app_u8 _ rfl (.tmp 205) (.tmp 206) rfl w6.heap.size rfl (own_ext HOW.out XF.out) rfl HFN.out (Rd.of_own OF.out) (by omega) EF.out.size ?_; intro B8 cb8 w8 o8 g8 b8; have O8 := Lib.hid o8; have OG8 := Lib.hid ((own_ext HOG.out XF.out).kept g8 (by cases e7 : (Value.slice GA gn gp).ownBlock with | none => exact .inl rfl | some b7 => exact .inr (fun e8 => HAP.out b7 e8.symm e7))); have E8 := Lib.hid (EF.out.grown g8 (fun q e => (HOW.out.lt q e).1)); have AP8 := Lib.hid (show ∀ b, (Value.slice B8 (wn + 38) cb8).ownBlock = some b → (Value.slice GA gn gp).ownBlock ≠ some b from fun b e e2 => by
                  rcases b8 with h9 | h9
                  · exact HAP.out b (h9 ▸ e) e2
                  · rw [h9] at e; injection e with e; have := (HOG.out.lt b e2).2; omega); have H8 := Lib.hid (show ConnIn w8 w6.heap.size gc r s ((Value.slice B8 (wn + 38) cb8).ownBlock.toList ++ (Value.slice GA gn gp).ownBlock.toList) from (HCN.out.ext XF.out).grown g8 (fun b e => by rw [e]; simp) (fun b hb => by
                  rcases List.mem_append.1 hb with hb | hb
                  · have hb' : (Value.slice B8 (wn + 38) cb8).ownBlock = some b := by simpa using hb
                    rcases b8 with h9 | h9
                    · exact .inl (List.mem_append_left _ (by rw [← h9, hb']; simp))
                    · have hl9 := (o8.lt b hb').2
                      rw [h9] at hb'; injection hb' with hb'
                      exact .inr ⟨by omega, hl9⟩
                  · exact .inl (List.mem_append_right _ hb))); clear o8 g8 b8) | fail)
              have hswl : s.wr.length ≤ 760 := by
                have h1 := congrArg List.length HGW.out
                rw [List.length_append, HW1.out] at h1
                omega
              have hgn9 : gn ≤ 760 := by
                have h1 := congrArg List.length HGW.out
                rw [List.length_append, HW1.out, HG1.out] at h1
                omega
              refine (cin_next_end w8 w6.heap.size gc r s _ H8.out (by omega) HST.out.2.1 HST.out.2.2.1 HDR.out 12 HST.out.2.2.2.2.1 (by omega) (by omega)).mono ?_
              rintro e9 w9 ⟨q2, B2, hri2, rfl, h9, g9⟩
              obtain ⟨hq0, hB0⟩ := rep_one rfl HRI.out hri2
              subst hq0
              subst hB0
              obtain ⟨s7, Hs7⟩ : ∃ s7 : CSt, Hid ({ wrote s 0 B with closed := true } = s7) := ⟨_, rfl⟩
              have h9' : ConnIn w9 w6.heap.size gc r s7 ((Value.slice B8 (wn + 38) cb8).ownBlock.toList ++ (Value.slice GA gn gp).ownBlock.toList) := by rw [← Hs7.out]; exact h9
              have P7 : Hid (s7.wr = s.wr ++ fr ∧ s7.closed = true ∧ s7.out = none) := by
                rw [← Hs7.out]
                refine ⟨?_, rfl, ?_⟩
                · show (wrote s 0 B).wr = _
                  rw [wrote_wr s B HST.out.2.2.2.1, HBL.out, Hfr.out]
                · show (wrote s 0 B).out = none
                  rw [wrote_out]
                  exact HST.out.2.1
              have O9 := Lib.hid (g9.own O8.out (fun b e => by rw [e]; simp)); have OG9 := Lib.hid (g9.own OG8.out (fun b e => by rw [e]; simp)); have E9 := Lib.hid (g9.out E8.out); have H9 := Lib.hid h9'
              clear h9 h9' g9 hri2
              go_upto_region 51 with fail
              obtain ⟨Y, hY⟩ : ∃ Y, w9.alloc (.cells #[.int .u8 0, .int .i64 0, .slice none 0 0, .int .i64 0] 63) = Y := ⟨_, rfl⟩
              have xY : Ext w9 Y := by rw [← hY]; exact (Ext.refl w9).alloc _
              rw [hY]
              clear hY
              have NC := Lib.hid (cin_next_closed Y w6.heap.size gc r s7 _ (H9.out.ext xY) P7.out.2.2 P7.out.2.1)
              have XY := Lib.hid xY
              clear xY
              go_wp2_with fail
              refine NC.out.mono ?_
              rintro e9 wn9 ⟨rfl, xn⟩
              go_upto_region 52 with fail
              have xV := (XY.out.trans xn).alloc (.cells #[.int .u8 0, .int .i64 0, .slice none 0 0, .int .i64 0] 63)
              generalize wn9.alloc (.cells #[.int .u8 0, .int .i64 0, .slice none 0 0, .int .i64 0] 63) = V at xV ⊢
              have XV := Lib.hid xV
              have tk := cin_take V w6.heap.size gc r s7 _ (H9.out.ext xV)
              obtain ⟨sw, Hsw⟩ : ∃ sw, Hid (s7.wr.length = sw) := ⟨_, rfl⟩
              rw [Hsw.out] at tk
              have hsw : sw ≤ 1000 := by
                rw [← Hsw.out, P7.out.1, List.length_append, HFN.out]
                omega
              have TK := Lib.hid tk
              clear tk xV xn
              go_wp2_with fail
              refine TK.out.mono ?_
              rintro e9 wt ⟨WB, wd, rfl, hT, gT, oT, -⟩
              have OWT := Lib.hid (gT.own (own_ext O9.out XV.out) (fun b e => by rw [e]; simp))
              have OGT := Lib.hid (gT.own (own_ext OG9.out XV.out) (fun b e => by rw [e]; simp))
              have ET := Lib.hid (gT.out (E9.out.trans XV.out))
              have HT9 := Lib.hid hT; have OT := Lib.hid oT
              clear hT gT oT TK
              go_wp2_with (first | (at_builtin; refine app_u8 _ rfl (.tmp 218) (.tmp 220) rfl w6.heap.size rfl OGT.out rfl Hsw.out (Rd.of_own OT.out) (by omega) ET.out.size ?_; intro B11 cb11 w11 o11 g11 b11; have O11 := Lib.hid o11; have OW11 := Lib.hid (OWT.out.kept g11 (by cases e7 : (Value.slice B8 (wn + 38) cb8).ownBlock with | none => exact .inl rfl | some b7 => exact .inr (fun e8 => AP8.out b7 e7 e8.symm))); have E11 := Lib.hid (ET.out.grown g11 (fun q e => (OGT.out.lt q e).1)); have H11 := Lib.hid (show ConnIn w11 w6.heap.size gc r { s7 with wr := [] } [] from HT9.out.grown g11 (fun b e => by rw [e]; simp) (fun b hb => by cases hb)); clear o11 g11 b11) | fail)
              have hsame : gs ++ s7.wr = ws ++ fr := by rw [P7.out.1, ← List.append_assoc, HGW.out]
              have hlsum : gn + sw = wn + 38 := by
                have h1 := congrArg List.length hsame
                rw [List.length_append, List.length_append, HW1.out, HG1.out, Hsw.out, HFN.out] at h1
                exact h1
              have sa := same_any B11 B8 (gn + sw) cb11 (wn + 38) cb8 (gs ++ s7.wr) (ws ++ fr) w11 (by rw [List.length_append, HG1.out, Hsw.out]) (by rw [List.length_append, HW1.out, HFN.out]) (by omega) (fun x hx => by rw [hsame] at hx; exact (List.mem_append.1 hx).elim (HWB.out x) (HFB.out x)) (fun x hx => (List.mem_append.1 hx).elim (HWB.out x) (HFB.out x)) (Rd.of_own O11.out) (Rd.of_own OW11.out)
              rw [hsame, show same (ws ++ fr) (ws ++ fr) = true from decide_eq_true rfl] at sa
              have SA := Lib.hid sa
              clear sa hsame hlsum
              refine (toE_q SA.out).mono ?_
              rintro e9 w12 ⟨rfl, x12⟩
              have H12 := Lib.hid (H11.out.ext x12); have E12 := Lib.hid (E11.out.trans x12)
              have TK2 := Lib.hid (show Calls Try.prog 53 #[.pointer (some ⟨gc, 0, none⟩)] w12 fun e w' => ∃ WA wc, e = .returned (.slice WA 0 wc) ∧ ConnIn w' w6.heap.size gc r { s7 with wr := [] } [] ∧ Gone w12 w' w6.heap.size [] from (cin_take w12 w6.heap.size gc r _ [] H12.out).mono fun e w' ⟨WA, wc, k1, k2, k3, _, _⟩ => ⟨WA, wc, k1, k2, k3⟩)
              clear x12 SA
              go_wp2_with fail
              refine TK2.out.mono ?_
              rintro e9 w13 ⟨WC, we, rfl, h13, g13⟩
              have OP13 := cin_open w13 w6.heap.size gc r _ [] h13
              dsimp only at OP13
              rw [P7.out.2.1] at OP13
              have OP14 := Lib.hid OP13
              have FC := Lib.hid (cin_feed_closed w13 w6.heap.size gc r _ [] h13 (.inl P7.out.2.1) A3 n3 c3)
              have E13 := Lib.hid (g13.out E12.out)
              clear h13 g13 TK2 OP13
              go_wp2_with fail
              refine OP14.out.mono ?_
              rintro e9 w14 ⟨rfl, rfl⟩
              go_wp2_with fail
              refine FC.out.mono ?_
              rintro e9 w15 ⟨rfl, rfl⟩
              go_wp2_with fail
              go_ret
              exact retTrue (X1.out.trans (X6.out.trans E13.out))
end Go.Proofs.Ythkdjjfnmlemdaa
