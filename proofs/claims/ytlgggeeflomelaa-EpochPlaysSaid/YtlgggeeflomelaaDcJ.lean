/- spigotref13: DocStep, Retire. Printed by gen_dcj.py. -/
import Derived.Test.YtlgggeeflomelaaDcI
namespace Go.Proofs.Ytlgggeeflomelaa
open Go.RowKit

theorem step_app_dthing {ops : Array Oper} {o : Oper} {a : Act} {K : Act → World → Prop} {Q : Exit → Act → World → Prop} {E : Prop} (w : World) (hgd : o.guard = none) (s x : Operand)
    (ho : o.op = .call { callee := .builtin .append, args := #[s, x], argTypes := #[132, 132] })
    (base : Nat) {B : Option Addr} {n cb : Nat} {xs : List (Int × Nat)} (hs : a.eval s = .slice B n cb) (hown : w.ownsRow base 138 2 (.slice B n cb) n (dthings xs))
    {A : Option Addr} {c : Nat} (y : Int × Nat) (hx : a.eval x = .slice A 1 c) (hr : Rd w A (dtc y)) (hb : n ≤ 1000000000) (hbase : base ≤ w.heap.size)
    (h : ∀ B' cb' w', w'.ownsRow base 138 2 (.slice B' (n + 1) cb') (n + 1) (dthings (xs ++ [y])) → w.grownBy w' (Value.slice B n cb).ownBlock →
      ((Value.slice B' (n + 1) cb').ownBlock = (Value.slice B n cb).ownBlock ∨ (Value.slice B' (n + 1) cb').ownBlock = some w.heap.size) → K (a.put o.dst (.slice B' (n + 1) cb')) w') :
    if Region.wanted o (yielded ops a.tmps) = true then Oper.wp Try.prog o a w K Q else E := by
  have hw : Region.wanted o (yielded ops a.tmps) = true := by simp [Region.wanted, hgd]
  rw [if_pos hw]
  obtain ⟨i0, hi, hz0, hz1, hz2⟩ := info_parts info_dthing
  exact wp_append_rd w s x 132 ho base 138 Try.underlying132 hi hz0 hz1 hz2 rfl (by decide) hs hown hx (m := 1) (news := dtc y) rfl hr (by rw [← dthings_one]; exact dthings_cell _) (by unfold maxLen; omega) (by omega) hbase
    fun B' cb' w' h2 h3 h4 => h B' cb' w' (by rw [dthings_app, dthings_one]; exact h2) h3 h4
theorem dret_trans {w w1 w2 : World} {F F1 : Nat → Prop} {gk n : Nat} {d : DSt} {done : Bool} {er nu : Int} {xs : List Int} {e : Ending} (g : GB w w1 F) (m : ∀ i, F i → F1 i) (m' : ∀ i, F1 i → F i ∨ w.heap.size ≤ i) (h : DRet w1 F1 gk n d done er nu xs e w2) : DRet w F gk n d done er nu xs e w2 := by
  obtain ⟨A, a, k, F', rfl, h1, h2, h3, h4, h5, h6⟩ := h
  exact ⟨A, a, k, F', rfl, h1, g.trans h2 m', fun i hi => h3 i (m i hi), fun i hi => (h4 i hi).elim (m' i) (fun e => .inr (Nat.le_trans g.size e)), own_base h5 g.size, h6⟩
set_option maxHeartbeats 1000000 in
set_option maxRecDepth 100000 in
theorem dstep_ret (w : World) (F : Nat → Prop) (gk n who : Nat) (d : DSt) (h : DAt w F gk n d) (hw : who < n) (ho : (d.wk who).op = 3) (hlen : (d.wk who).held.length ≤ 1000000) :
    Calls Try.prog 25 #[.pointer (some ⟨gk + 1, 0, none⟩), .int .i64 (who : Int)] w (DStepR w F gk n (d.put who { d.wk who with held := (d.wk who).held ++ [((d.wk who).thing, d.ep)], op := 0 }) true 0 (d.ep : Int) [] 0) := by
  obtain ⟨V, hV⟩ : ∃ V, w.alloc (.cells #[.bool false, .int .i64 0, .int .i64 0, .slice none 0 0] 52) = V := ⟨_, rfl⟩
  have xV : Ext w V := by rw [← hV]; exact (Ext.refl w).alloc _
  have KR := Lib.hid (show V.heap[w.heap.size]? = some (.cells #[.bool false, .int .i64 0, .int .i64 0, .slice none 0 0] 52 (0, 0)) by rw [← hV]; exact blk_new w _)
  have DV := Lib.hid (h.ext xV)
  have HLT := Lib.hid h.lt
  have HF := Lib.hid h.in
  have HLV := Lib.hid DV.out.lt
  have XV := Lib.hid xV
  obtain ⟨B0, c, -, -, e0, x1, -, hcs, fz, hown, hoF, -, -⟩ := DV.out.wk hw
  have co : V.cell? ⟨gk, who * 7, none⟩ = some (.int .u8 ((d.wk who).op : Int)) := hcs 0 (by omega)
  have e3 : V.cell? ⟨gk, who * 7 + 3, none⟩ = some (.int .i64 (d.wk who).thing) := hcs 3 (by omega)
  have xh : V.cell? ⟨gk, who * 7 + 5, none⟩ = some (.slice B0 (d.wk who).held.length c) := hcs 5 (by omega)
  have xf := fz (who * 7 + 5)
  rw [ho] at co
  have TH := Lib.hid (dthere_ok V gk n who x1 hw)
  have PUT := Lib.hid (fun (wr : World) (B' : Option Addr) (c' : Nat) (l' : List (Int × Nat)) g hS hq => DV.out.put_held (w3 := wr) (B' := B') (c' := c') (l' := l') (S := fun i => (Value.slice B0 (d.wk who).held.length c).ownBlock = some i) hw xh g (fun i e => .inl e) hS hq)
  obtain ⟨ep, hep⟩ : ∃ ep, Hid (d.ep = ep) := ⟨_, Lib.hid rfl⟩
  obtain ⟨thing, hth⟩ : ∃ thing, Hid ((d.wk who).thing = thing) := ⟨_, Lib.hid rfl⟩
  obtain ⟨xs, hxs⟩ : ∃ xs, Hid ((d.wk who).held = xs) := ⟨_, Lib.hid rfl⟩
  rw [hep.out] at e0 ⊢
  rw [hth.out] at e3 ⊢
  rw [hxs.out] at xh hown hlen hoF PUT ⊢
  obtain ⟨m, hm⟩ : ∃ m, xs.length = m := ⟨_, rfl⟩
  have Hm := Lib.hid hm
  rw [hm] at xh hown hlen hoF PUT
  have HO := Lib.hid hown
  have HOF := Lib.hid (fun q hq => (hoF q hq).1)
  have hgkV : gk < V.heap.size := World.block_lt_of_cell? V _ xh
  have hgw1 : gk + 1 ≤ V.heap.size := hgkV
  have qw : ¬ (Value.slice B0 m c).ownBlock = some gk := fun e => by have := (HO.out.lt _ e).1; omega
  have qx : ¬ (Value.slice B0 m c).ownBlock = some (gk + 1) := fun e => (hoF _ e).2 rfl
  have hrg : w.heap.size ≠ gk := fun e => Nat.lt_irrefl _ (HLT.out _ (e ▸ HF.out.2))
  have qr : ¬ (Value.slice B0 m c).ownBlock = some w.heap.size := fun e => Nat.lt_irrefl _ (HLT.out _ (HOF.out _ e))
  have hxw : gk + 1 ≠ gk := by omega
  have hm9 : m ≤ 1000000000 := by omega
  have e3' := cell_past e3 (.cells #[.int .i64 thing, .int .i64 (ep : Int)] 138)
  have e0' := cell_past e0 (.cells #[.int .i64 thing, .int .i64 (ep : Int)] 138)
  have xh' := cell_past xh (.cells #[.int .i64 thing, .int .i64 (ep : Int)] 138)
  clear h fz xV ho hcs hown hoF hm
  go_enter Try.func25, Try.ntmps25
  go_upto_region 1 with fail
  (try rw [hV])
  clear hV
  go_wp2_with fail
  refine TH.out.mono ?_
  rintro ee1 w1 ⟨rfl, rfl⟩
  go_upto_region 11 with fail
  go_cut [] (fun wd => DGo V F gk n (d.put who { d.wk who with held := xs ++ [(thing, ep)] }) wd ∧ wd.heap[w.heap.size]? = some (.cells #[.bool false, .int .i64 0, .int .i64 0, .slice none 0 0] 52 (0, 0)))
  case first =>
    refine wp_region_held_drew (S := fun w' => w'.cell? ⟨gk, who * 7 + 3, none⟩ = some (.int .i64 thing) ∧ w'.cell? ⟨gk + 1, 0, none⟩ = some (.int .i64 (ep : Int))) (by kernel_rfl) ⟨drew_cell e3, drew_cell e0⟩ (fun hHeld => ?_)
    refine wpAnyH_take (i := 0) (oi := _) (v := ?_) rfl (by kernel_rfl) (by kernel_rfl) (by kernel_rfl) (fun _ _ _ h => h) (Or.inl ⟨by rfl, ?_⟩) (by assumption) ?_
    rotate_left
    · intro w hSw; (try dsimp only at hSw); go_simp
      (try with_reducible rfl)
    (try simp only [Act.put])
    refine wpAnyH_take (i := 1) (oi := _) (v := ?_) rfl (by kernel_rfl) (by kernel_rfl) (by kernel_rfl) (fun _ _ _ h => h) (Or.inl ⟨by rfl, ?_⟩) (by assumption) ?_
    rotate_left
    · intro w hSw; (try dsimp only at hSw); go_simp
      (try with_reducible rfl)
    (try simp only [Act.put])
    refine wpAnyH_take (i := 2) (oi := _) (v := ?_) rfl (by kernel_rfl) (by kernel_rfl) (by kernel_rfl) (fun _ _ _ h => h) (Or.inl ⟨by rfl, ?_⟩) (by assumption) ?_
    rotate_left
    · intro w hSw; (try dsimp only at hSw); go_simp
      (try with_reducible rfl)
    (try simp only [Act.put])
    refine wpAnyH_take (i := 3) (oi := _) (v := ?_) rfl (by kernel_rfl) (by kernel_rfl) (by kernel_rfl) (fun _ _ _ h => h) (Or.inl ⟨by rfl, ?_⟩) (by assumption) ?_
    rotate_left
    · intro w hSw; (try dsimp only at hSw); go_simp
      (try with_reducible rfl)
    (try simp only [Act.put])
    refine wpAnyH_take (i := 5) (oi := _) (v := ?_) rfl (by kernel_rfl) (by kernel_rfl) (by kernel_rfl) (fun _ _ _ h => h) (Or.inl ⟨by rfl, ?_⟩) (by assumption) ?_
    rotate_left
    · intro w hSw; (try dsimp only at hSw); go_simp
      (try with_reducible rfl)
    (try simp only [Act.put])
    refine wpAnyH_take (i := 6) (oi := _) (v := ?_) rfl (by kernel_rfl) (by kernel_rfl) (by kernel_rfl) (fun _ _ _ h => h) (Or.inl ⟨by rfl, ?_⟩) (by assumption) ?_
    rotate_left
    · intro w hSw; (try dsimp only at hSw); go_simp
      (try with_reducible rfl)
    (try simp only [Act.put])
    refine wpAnyH_take (i := 7) (oi := _) (v := ?_) rfl (by kernel_rfl) (by kernel_rfl) (by kernel_rfl) (fun _ _ _ h => h) (Or.inl ⟨by rfl, ?_⟩) (by assumption) ?_
    rotate_left
    · intro w hSw; (try dsimp only at hSw); go_simp
      (try with_reducible rfl)
    (try simp only [Act.put])
    refine wpAnyH_take (i := 8) (oi := _) (v := ?_) rfl (by kernel_rfl) (by kernel_rfl) (by kernel_rfl) (fun _ _ _ h => h) (Or.inl ⟨by rfl, ?_⟩) (by assumption) ?_
    rotate_left
    · intro w hSw; (try dsimp only at hSw); go_simp
      (try with_reducible rfl)
    (try simp only [Act.put])
    refine wpAnyH_take (i := 9) (oi := _) (v := ?_) rfl (by kernel_rfl) (by kernel_rfl) (by kernel_rfl) (fun _ _ _ h => h) (Or.inl ⟨by rfl, ?_⟩) (by assumption) ?_
    rotate_left
    · intro w hSw; (try dsimp only at hSw); go_simp
      (try with_reducible rfl)
    (try simp only [Act.put])
    refine wpAnyH_take (i := 10) (oi := _) (v := ?_) rfl (by kernel_rfl) (by kernel_rfl) (by kernel_rfl) (fun _ _ _ h => h) (Or.inl ⟨by rfl, ?_⟩) (by assumption) ?_
    rotate_left
    · intro w hSw; (try dsimp only at hSw); go_simp
      (try with_reducible rfl)
    (try simp only [Act.put])
    refine wpAnyH_take (i := 11) (oi := _) (v := ?_) rfl (by kernel_rfl) (by kernel_rfl) (by kernel_rfl) (fun _ _ _ h => h) (Or.inl ⟨by rfl, ?_⟩) (by assumption) ?_
    rotate_left
    · intro w hSw; (try dsimp only at hSw); go_simp
      (try with_reducible rfl)
    (try simp only [Act.put])
    refine wpAnyH_take (i := 12) (oi := _) (v := ?_) rfl (by kernel_rfl) (by kernel_rfl) (by kernel_rfl) (fun _ _ _ h => h) (Or.inl ⟨by rfl, ?_⟩) (by assumption) ?_
    rotate_left
    · intro w hSw; (try dsimp only at hSw); go_simp
      (try with_reducible rfl)
    (try simp only [Act.put])
    refine wpAnyH_take (i := 13) (oi := _) (v := ?_) rfl (by kernel_rfl) (by kernel_rfl) (by kernel_rfl) (fun _ _ _ h => h) (Or.inl ⟨by rfl, ?_⟩) (by assumption) ?_
    rotate_left
    · intro w hSw; (try dsimp only at hSw); go_simp
      (try with_reducible rfl)
    (try simp only [Act.put])
    refine wpAnyH_ready (rs := [4, 14]) (by kernel_rfl) (by simp) (AllReadyH.cons (o := _) rfl (fun K hK => ?_) (AllReadyH.cons (o := _) rfl (fun K hK => ?_) AllReadyH.nil))
    · go_simp
      refine hK.out _ _ (by ((try dsimp only); refine ⟨?_, ?_⟩ <;> first | (with_reducible exact drew_cell e3) | (with_reducible exact drew_cell e0) | (with_reducible exact drew_cell e3') | (with_reducible exact drew_cell e0') | (with_reducible exact s3) | (with_reducible exact s0) | (with_reducible exact cell_off s3 (by omega)) | (with_reducible exact cell_other s0 hxw))) (fun hHeld => ?_)
      clear hK K
      (try simp only [Act.put])
      refine wpAnyH_ready (rs := [14]) (by kernel_rfl) (by simp) (AllReadyH.cons (o := _) rfl (fun K hK => ?_) AllReadyH.nil)
      go_simp
      refine hK.out _ _ (by ((try dsimp only); refine ⟨?_, ?_⟩ <;> first | (with_reducible exact drew_cell e3) | (with_reducible exact drew_cell e0) | (with_reducible exact drew_cell e3') | (with_reducible exact drew_cell e0') | (with_reducible exact s3) | (with_reducible exact s0) | (with_reducible exact cell_off s3 (by omega)) | (with_reducible exact cell_other s0 hxw))) (fun hHeld => ?_)
      clear hK K
      (try simp only [Act.put])
      refine wpAnyH_ready (rs := [15]) (by kernel_rfl) (by simp) (AllReadyH.cons (o := _) rfl (fun K hK => ?_) AllReadyH.nil)
      refine step_app_dthing (V.alloc (.cells #[.int .i64 thing, .int .i64 (ep : Int)] 138)).drew rfl (.tmp 43) (.tmp 53) rfl (gk + 1) (by rfl) (own_ext HO.out ((Ext.refl V).alloc _).drew) (thing, ep) (by rfl) (show Rd _ _ _ from rd_newk V (dtc (thing, ep)) _ rfl) hm9 (Nat.le_trans hgw1 ((Ext.refl V).alloc _).drew.size) ?_; intro B' cb' w6 o6 g6 b6; have GW : GB V w6 (fun i => (Value.slice B0 m c).ownBlock = some i) := ((GB.refl V _).alloc _).drew.grown g6 (fun q e => .inl e); have s3 := GW.cell e3 qw; have s0 := GW.cell e0 qx; have sh := GW.cell xh qw; have sf : w6.frozen? ⟨gk, who * 7 + 5, none⟩ = false := (frozen_gb GW hgkV qw).trans xf; have K6 := Lib.hid (GW.blk KR.out qr)
      refine hK.out _ _ (by ((try dsimp only); refine ⟨?_, ?_⟩ <;> first | (with_reducible exact drew_cell e3) | (with_reducible exact drew_cell e0) | (with_reducible exact drew_cell e3') | (with_reducible exact drew_cell e0') | (with_reducible exact s3) | (with_reducible exact s0) | (with_reducible exact cell_off s3 (by omega)) | (with_reducible exact cell_other s0 hxw))) (fun hHeld => ?_)
      clear hK K
      (try simp only [Act.put])
      refine wpAnyH_take (i := 16) (oi := _) (v := ?_) rfl (by kernel_rfl) (by kernel_rfl) (by kernel_rfl) (fun _ _ _ h => h) (Or.inl ⟨by rfl, ?_⟩) (by assumption) ?_
      rotate_left
      · intro w hSw; (try dsimp only at hSw); go_simp
        (try with_reducible rfl)
      (try simp only [Act.put])
      refine wpAnyH_take (i := 17) (oi := _) (v := ?_) rfl (by kernel_rfl) (by kernel_rfl) (by kernel_rfl) (fun _ _ _ h => h) (Or.inl ⟨by rfl, ?_⟩) (by assumption) ?_
      rotate_left
      · intro w hSw; (try dsimp only at hSw); go_simp
        (try with_reducible rfl)
      (try simp only [Act.put])
      refine wpAnyH_ready (rs := [18]) (by kernel_rfl) (by simp) (AllReadyH.cons (o := _) rfl (fun K hK => ?_) AllReadyH.nil)
      go_simp
      refine hK.out _ _ (by ((try dsimp only); refine ⟨?_, ?_⟩ <;> first | (with_reducible exact drew_cell e3) | (with_reducible exact drew_cell e0) | (with_reducible exact drew_cell e3') | (with_reducible exact drew_cell e0') | (with_reducible exact s3) | (with_reducible exact s0) | (with_reducible exact cell_off s3 (by omega)) | (with_reducible exact cell_other s0 hxw))) (fun hHeld => ?_)
      clear hK K
      (try simp only [Act.put])
      refine wpAnyH_done (by kernel_rfl) ?_ _
      go_wp2_with fail
      go_meet
      have hlx : (xs ++ [(thing, ep)]).length = m + 1 := by rw [List.length_append, Hm.out]; rfl
      refine ⟨?_, blk_grown K6.out (grown_set w6 gk (who * 7 + 5) _) hrg⟩
      have PU := PUT.out w6 B' cb' (xs ++ [(thing, ep)])
      rw [hlx] at PU
      have bq : ∀ q, (Value.slice B' (m + 1) cb').ownBlock = some q → (Value.slice B0 m c).ownBlock = some q ∨ V.heap.size ≤ q := fun q hq => by
        rw [hq] at b6
        rcases b6 with b6 | b6
        · exact .inl b6.symm
        · injection b6 with b6
          refine .inr ?_
          rw [b6]
          exact ((Ext.refl V).alloc _).drew.size
      obtain ⟨F', y1, y2, y3⟩ := PU GW o6 (fun q hq => (bq q hq).imp id (fun e => ⟨fun hf => by have := HLV.out q hf; omega, fun e' => by have := HLV.out _ HF.out.1; omega⟩))
      exact ⟨F', y1, (GW.more (fun i _ hi => HOF.out i hi)).set gk _ _ (.inl HF.out.2), y2, fun i hi => (y3 i hi).elim .inl (fun e => (bq i e).imp (HOF.out i) id)⟩
    · go_simp
      refine hK.out _ _ (by ((try dsimp only); refine ⟨?_, ?_⟩ <;> first | (with_reducible exact drew_cell e3) | (with_reducible exact drew_cell e0) | (with_reducible exact drew_cell e3') | (with_reducible exact drew_cell e0') | (with_reducible exact s3) | (with_reducible exact s0) | (with_reducible exact cell_off s3 (by omega)) | (with_reducible exact cell_other s0 hxw))) (fun hHeld => ?_)
      clear hK K
      (try simp only [Act.put])
      refine wpAnyH_ready (rs := [4]) (by kernel_rfl) (by simp) (AllReadyH.cons (o := _) rfl (fun K hK => ?_) AllReadyH.nil)
      go_simp
      refine hK.out _ _ (by ((try dsimp only); refine ⟨?_, ?_⟩ <;> first | (with_reducible exact drew_cell e3) | (with_reducible exact drew_cell e0) | (with_reducible exact drew_cell e3') | (with_reducible exact drew_cell e0') | (with_reducible exact s3) | (with_reducible exact s0) | (with_reducible exact cell_off s3 (by omega)) | (with_reducible exact cell_other s0 hxw))) (fun hHeld => ?_)
      clear hK K
      (try simp only [Act.put])
      refine wpAnyH_ready (rs := [15]) (by kernel_rfl) (by simp) (AllReadyH.cons (o := _) rfl (fun K hK => ?_) AllReadyH.nil)
      refine step_app_dthing (V.alloc (.cells #[.int .i64 thing, .int .i64 (ep : Int)] 138)).drew rfl (.tmp 43) (.tmp 53) rfl (gk + 1) (by rfl) (own_ext HO.out ((Ext.refl V).alloc _).drew) (thing, ep) (by rfl) (show Rd _ _ _ from rd_newk V (dtc (thing, ep)) _ rfl) hm9 (Nat.le_trans hgw1 ((Ext.refl V).alloc _).drew.size) ?_; intro B' cb' w6 o6 g6 b6; have GW : GB V w6 (fun i => (Value.slice B0 m c).ownBlock = some i) := ((GB.refl V _).alloc _).drew.grown g6 (fun q e => .inl e); have s3 := GW.cell e3 qw; have s0 := GW.cell e0 qx; have sh := GW.cell xh qw; have sf : w6.frozen? ⟨gk, who * 7 + 5, none⟩ = false := (frozen_gb GW hgkV qw).trans xf; have K6 := Lib.hid (GW.blk KR.out qr)
      refine hK.out _ _ (by ((try dsimp only); refine ⟨?_, ?_⟩ <;> first | (with_reducible exact drew_cell e3) | (with_reducible exact drew_cell e0) | (with_reducible exact drew_cell e3') | (with_reducible exact drew_cell e0') | (with_reducible exact s3) | (with_reducible exact s0) | (with_reducible exact cell_off s3 (by omega)) | (with_reducible exact cell_other s0 hxw))) (fun hHeld => ?_)
      clear hK K
      (try simp only [Act.put])
      refine wpAnyH_take (i := 16) (oi := _) (v := ?_) rfl (by kernel_rfl) (by kernel_rfl) (by kernel_rfl) (fun _ _ _ h => h) (Or.inl ⟨by rfl, ?_⟩) (by assumption) ?_
      rotate_left
      · intro w hSw; (try dsimp only at hSw); go_simp
        (try with_reducible rfl)
      (try simp only [Act.put])
      refine wpAnyH_take (i := 17) (oi := _) (v := ?_) rfl (by kernel_rfl) (by kernel_rfl) (by kernel_rfl) (fun _ _ _ h => h) (Or.inl ⟨by rfl, ?_⟩) (by assumption) ?_
      rotate_left
      · intro w hSw; (try dsimp only at hSw); go_simp
        (try with_reducible rfl)
      (try simp only [Act.put])
      refine wpAnyH_ready (rs := [18]) (by kernel_rfl) (by simp) (AllReadyH.cons (o := _) rfl (fun K hK => ?_) AllReadyH.nil)
      go_simp
      refine hK.out _ _ (by ((try dsimp only); refine ⟨?_, ?_⟩ <;> first | (with_reducible exact drew_cell e3) | (with_reducible exact drew_cell e0) | (with_reducible exact drew_cell e3') | (with_reducible exact drew_cell e0') | (with_reducible exact s3) | (with_reducible exact s0) | (with_reducible exact cell_off s3 (by omega)) | (with_reducible exact cell_other s0 hxw))) (fun hHeld => ?_)
      clear hK K
      (try simp only [Act.put])
      refine wpAnyH_done (by kernel_rfl) ?_ _
      go_wp2_with fail
      go_meet
      have hlx : (xs ++ [(thing, ep)]).length = m + 1 := by rw [List.length_append, Hm.out]; rfl
      refine ⟨?_, blk_grown K6.out (grown_set w6 gk (who * 7 + 5) _) hrg⟩
      have PU := PUT.out w6 B' cb' (xs ++ [(thing, ep)])
      rw [hlx] at PU
      have bq : ∀ q, (Value.slice B' (m + 1) cb').ownBlock = some q → (Value.slice B0 m c).ownBlock = some q ∨ V.heap.size ≤ q := fun q hq => by
        rw [hq] at b6
        rcases b6 with b6 | b6
        · exact .inl b6.symm
        · injection b6 with b6
          refine .inr ?_
          rw [b6]
          exact ((Ext.refl V).alloc _).drew.size
      obtain ⟨F', y1, y2, y3⟩ := PU GW o6 (fun q hq => (bq q hq).imp id (fun e => ⟨fun hf => by have := HLV.out q hf; omega, fun e' => by have := HLV.out _ HF.out.1; omega⟩))
      exact ⟨F', y1, (GW.more (fun i _ hi => HOF.out i hi)).set gk _ _ (.inl HF.out.2), y2, fun i hi => (y3 i hi).elim .inl (fun e => (bq i e).imp (HOF.out i) id)⟩
  case rest =>
    obtain ⟨hmid, kr⟩ := hcut
    obtain ⟨F', D1, g1, m1, m1'⟩ := hmid
    have EN := Lib.hid (D1.dend hw { d.wk who with held := xs ++ [(thing, ep)] } { d.wk who with held := xs ++ [(thing, ep)], op := 0 } rfl d rfl 0 (ep : Int))
    have y0 : wc.cell? ⟨gk + 1, 0, none⟩ = some (.int .i64 (ep : Int)) := by
      obtain ⟨_, _, k0, _⟩ := D1.cells hw
      rw [show (d.put who { d.wk who with held := xs ++ [(thing, ep)] }).ep = ep from hep.out] at k0
      exact k0
    have hrF : Hid (¬ F' w.heap.size) := Lib.hid (fun e => (m1' _ e).elim (fun e => Nat.lt_irrefl _ (HLT.out _ e)) (fun e => by have := blk_lt KR.out; omega))
    have TR := Lib.hid (fun (d2 : DSt) (e : Ending) (w2 : World) (hh : DRet wc F' gk n d2 true 0 (ep : Int) [] e w2) => dret_trans g1 m1 m1' hh)
    have KR3 := Lib.hid kr
    clear D1 g1 m1 m1' kr e0 e3 xh e0' e3' xh' xf x1 co
    go_wp2_with fail
    refine EN.out.mono ?_
    rintro e1 w3 hd
    have HD := Lib.hid (TR.out _ _ _ hd)
    obtain ⟨A, a, k, F2, rfl, h1, h2, h3, h4, h5⟩ := hd
    have KR4 := Lib.hid (h2.blk KR3.out hrF.out)
    have r0 := blk_cell KR4.out 0; have r1 := blk_cell KR4.out 1; have r2 := blk_cell KR4.out 2; have r3 := blk_cell KR4.out 3
    have z0 := blk_frozen KR4.out 0; have z1 := blk_frozen KR4.out 1; have z2 := blk_frozen KR4.out 2; have z3 := blk_frozen KR4.out 3
    clear h1 h2 h3 h4 h5
    go_wp2_with fail
    refine bodyPost_ret (results_row_tmp (p := 4) (u := 5) rfl _ _ w.heap.size _ #[.bool true, .int .i64 0, .int .i64 (ep : Int), .slice A a k] (0, 0) _ rfl (row4 KR4.out _ _ _ _) Try.underlying52 (by rfl) (by kernel_rfl)) rfl ?_
    exact dstep_of 0 (dret_put (GB.of_ext F XV.out) (blk_lt KR.out) HLT.out _ _ _ _ HD.out)
end Go.Proofs.Ytlgggeeflomelaa
