/- Laid together: what 'TopGivenBack' needs, part 4 of 12. -/
import Derived.Test.YtloidkmphigbdaaGreatBTopGivenBack2
import Derived.Test.YtloidkmphigbdaaGreatBTopGivenBack3
namespace Go.Proofs.YtloidkmphigbdaaGreat
set_option linter.all false

section
open Go.RowKit

set_option maxHeartbeats 4000000 in
theorem give_err (w : World) (p t : Int) (A : Option Addr) (n c : Nat) (xs : List Int) (q : Int) (hl : xs.length = n) (hn : n ≤ 17592186044416) (hr : Rd w A (ivals xs)) (h : (¬ Form p xs ∧ q = 3) ∨ (Form p xs ∧ t ∉ xs ∧ q = 11)) :
    Calls Tryz.prog 254 #[semaV p A n c, .int .i64 t] w (RetS 0 0 [] q w) := by
  have KB0 := Lib.hid (blk_past (blk_new w (.cells #[.int .i64 p, .slice A n c] 369 (0, 0))) (.cells #[.int .i64 0, .slice none 0 0] 369 (0, 0)))
  have K0 := Lib.hid (blk_newk (w.alloc (.cells #[.int .i64 p, .slice A n c] 369 (0, 0))) (.cells #[.int .i64 0, .slice none 0 0] 369 (0, 0)) (k := w.heap.size + 1) (by simp))
  have Hl := Lib.hid hl; have Hr := Lib.hid hr; clear hl hr
  have hx1 : ∀ o o' : Obj, Ext w ((w.alloc o).alloc o') := fun o o' => ((Ext.refl w).alloc o).alloc o'
  go_enter Tryz.func254, Tryz.ntmps254
  go_wp2_with fail
  refine (check_any _ p A n c xs Hl.out hn (Hr.out.ext (hx1 _ _))).mono ?_
  rintro e w2 ⟨rfl, hy2⟩
  have KB2 := Lib.hid (blk_ext KB0.out hy2); have K2 := Lib.hid (blk_ext K0.out hy2)
  have hx2 := (hx1 _ _).trans hy2
  clear hy2 hx1
  rcases h with ⟨hF, rfl⟩ | ⟨hF, hm, rfl⟩
  · rw [formE_no hF]
    have k0 := blk_cell K2.out 0; have k1 := blk_cell K2.out 1; have f0 := blk_frozen K2.out 0; have f1 := blk_frozen K2.out 1
    clear hF
    go_wp2_with fail
    refine bodyPost_ret (ret_sem rfl rfl (row2 K2.out _ _)) rfl ?_
    exact retS_zero hx2 (by omega) _ _
  · rw [formE_yes hF]
    obtain ⟨at_, ha⟩ := at_some hF.2.2.2 t
    have C := Lib.hid (fun W (hx : Ext w W) => search_any W t A n c xs Hl.out hn (Hr.out.ext hx) hF.2.2.2 at_ ha)
    clear ha hF
    have b0 := blk_cell KB2.out 0; have b1 := blk_cell KB2.out 1
    go_wp2_with fail
    refine (C.out w2 hx2).mono ?_
    rintro e w3 ⟨rfl, hy3⟩
    have KB3 := Lib.hid (blk_ext KB2.out hy3); have K3 := Lib.hid (blk_ext K2.out hy3)
    have hx3 := hx2.trans hy3
    clear b0 b1 hy3 C
    have k0 := blk_cell K3.out 0; have k1 := blk_cell K3.out 1; have f0 := blk_frozen K3.out 0; have f1 := blk_frozen K3.out 1
    rw [decide_eq_false hm]
    clear hm
    go_wp2_with fail
    refine bodyPost_ret (ret_sem rfl rfl (row2 K3.out _ _)) rfl ?_
    exact retS_zero hx3 (by omega) _ _
set_option maxHeartbeats 8000000 in
set_option maxRecDepth 100000 in
theorem give_ok (w : World) (p t : Int) (A : Option Addr) (n c at_ : Nat) (xs : List Int) (hl : xs.length = n) (hr : Rd w A (ivals xs)) (hF : Form p xs) (ha : At xs t at_) (hm : t ∈ xs) :
    Calls Tryz.prog 254 #[semaV p A n c, .int .i64 t] w (RetS p (n - 1) (delL xs at_) 0 w) := by
  have hn64 : n ≤ 64 := by have := hF.2.1; have := hF.2.2.1; omega
  have KB0 := Lib.hid (blk_past (blk_new w (.cells #[.int .i64 p, .slice A n c] 369 (0, 0))) (.cells #[.int .i64 0, .slice none 0 0] 369 (0, 0)))
  have K0 := Lib.hid (blk_newk (w.alloc (.cells #[.int .i64 p, .slice A n c] 369 (0, 0))) (.cells #[.int .i64 0, .slice none 0 0] 369 (0, 0)) (k := w.heap.size + 1) (by simp))
  have Hl := Lib.hid hl; have Hr := Lib.hid hr
  have hat : at_ < n := by rw [← hl]; exact ((at_mem ha hF.2.2.2).1 hm).1
  have C := Lib.hid (fun W (hx : Ext w W) => search_any W t A n c xs hl (by omega) (hr.ext hx) hF.2.2.2 at_ ha)
  have Cc := Lib.hid (fun W (hx : Ext w W) => check_any W p A n c xs hl (by omega) (hr.ext hx))
  have Hfe := Lib.hid (formE_yes hF); have Hm := Lib.hid (decide_eq_true hm)
  have hx1 : ∀ o o' : Obj, Ext w ((w.alloc o).alloc o') := fun o o' => ((Ext.refl w).alloc o).alloc o'
  clear hl hr ha hm hF
  go_enter Tryz.func254, Tryz.ntmps254
  go_wp2_with fail
  refine (Cc.out _ (hx1 _ _)).mono ?_
  rintro e w2 ⟨rfl, hy2⟩
  rw [Hfe.out]
  have KB2 := Lib.hid (blk_ext KB0.out hy2); have K2 := Lib.hid (blk_ext K0.out hy2)
  have hx2 := (hx1 _ _).trans hy2
  clear hy2 hx1
  have b0 := blk_cell KB2.out 0; have b1 := blk_cell KB2.out 1
  go_wp2_with fail
  refine (C.out w2 hx2).mono ?_
  rintro e w3 ⟨rfl, hy3⟩
  rw [Hm.out]
  have KB3 := Lib.hid (blk_ext KB2.out hy3); have K3 := Lib.hid (blk_ext K2.out hy3)
  have hx3 := hx2.trans hy3
  clear b0 b1 hy3 C Cc
  have hs3 : w.heap.size + 2 ≤ w3.heap.size := by have := blk_lt K3.out; omega
  have hne : w.heap.size ≠ w.heap.size + 1 := by omega
  have Hr3 := Lib.hid (show Rd w3.drew A (ivals xs) from Hr.out.ext hx3.drew)
  have hsd : w3.drew.heap.size = w3.heap.size := rfl
  have hn1000 : n ≤ 1000 := by omega
  have hwa : IntKind.i64.wrap ((at_ : Int) + 1) = (at_ : Int) + 1 := by rw [IntKind.wrap_i64]; omega
  have r0 : w3.cell? ⟨w.heap.size, 0, none⟩ = some (.int .i64 p) := blk_cell KB3.out 0
  have r1 : w3.cell? ⟨w.heap.size, 1, none⟩ = some (.slice A n c) := blk_cell KB3.out 1
  have d0 : w3.drew.cell? ⟨w.heap.size, 0, none⟩ = some (.int .i64 p) := r0
  have d1 : w3.drew.cell? ⟨w.heap.size, 1, none⟩ = some (.slice A n c) := r1
  go_upto_region 7 with fail
  go_region_held3 (fun w' => w'.cell? ⟨w.heap.size, 0, none⟩ = some (.int .i64 p) ∧ w'.cell? ⟨w.heap.size, 1, none⟩ = some (.slice A n c))
    (((try go_split_ands); refine ⟨?_, ?_⟩ <;> first | assumption | (with_reducible exact d0) | (with_reducible exact d1) | (with_reducible exact q0) | (with_reducible exact q1) | (with_reducible exact s0) | (with_reducible exact s1) | (with_reducible exact cell_other (cell_other s0 hne) hne) | (with_reducible exact cell_other (cell_other s1 hne) hne) | (with_reducible exact drew_cell (cell_other (cell_other s0 hne) hne)) | (with_reducible exact drew_cell (cell_other (cell_other s1 hne) hne))))
    (first
      | (go_at_call 165; refine (iclone_any A n c xs _ Hl.out (by omega) Hr3.out).mono ?_; rintro e4 w4 ⟨A4, c4, rfl, ho4, hy4⟩; rw [Hl.out] at ho4 ⊢; have HO4 := Lib.hid ho4; have HY4 := Lib.hid hy4; have hx34 : Ext w3 w4 := ((Ext.refl w3).drew).trans hy4; have q0 := ext_cell hx34 r0; have q1 := ext_cell hx34 r1; clear ho4 hy4 hx34)
      | (go_at_call 285; (with_reducible refine (delete_any w4 w3.drew.heap.size A4 n c4 at_ xs Hl.out hn1000 hat HO4.out).mono ?_); rintro e5 w5 ⟨rfl, ho5, hg5⟩; have HO5 := Lib.hid ho5; have hx35 : Ext w3 w5 := (((Ext.refl w3).drew).trans HY4.out).grown hg5 (fun k hk => by have := own_ge HO4.out k hk; omega); have s0 := ext_cell hx35 r0; have s1 := ext_cell hx35 r1; have KT5 := Lib.hid (blk_ext K3.out hx35); have u0 := blk_cell KT5.out 0; have u1 := blk_cell KT5.out 1; have v0 := blk_frozen KT5.out 0; have v1 := blk_frozen KT5.out 1; clear ho5 hg5))
  all_goals
    go_wp2_with fail
    refine bodyPost_ret (ret_sem rfl rfl (row2 KT5.out _ _)) rfl ?_
    exact ⟨A4, c4, rfl, own_base (own_row2 (own_base (base' := w.heap.size + 2) HO5.out (by omega)) (by omega) _ _) (by omega), ext_row2 (hx3.trans hx35) (by omega) _ _⟩
end

section
open Go.RowKit

theorem results_2cell {fn : Func} {p q : Tmp} {ty tz : TypeId} (h : fn.results = #[.cell p ty, .cell q tz]) (tmps : Array Value) (P : Program) (w : World) :
    (results fn tmps).run P w = ((asAddr (tmps.getD p undef)).run P w).andThen fun a w => ((loadVar ty a).run P w).andThen fun x w => ((asAddr (tmps.getD q undef)).run P w).andThen fun b w => ((loadVar tz b).run P w).andThen fun y w => .ok (.tuple #[x, y]) w := by
  simp [results, h, Result.andThen]
theorem results_2cell_row {P : Program} {fn : Func} {p q : Tmp} {ty tz : TypeId} (h : fn.results = #[.cell p ty, .cell q tz]) (tmps : Array Value) (w : World) (g i : Nat) (t u : TypeId) (cs ds : Array Value) (fr fs : Nat × Nat) (d e : TypeDesc)
    (hp : tmps.getD p undef = .pointer (some ⟨g, 0, none⟩)) (hg : w.heap[g]? = some (.cells cs t fr)) (hq : tmps.getD q undef = .pointer (some ⟨i, 0, none⟩)) (hi : w.heap[i]? = some (.cells ds u fs))
    (hu : P.underlying ty = some d) (hd : (match d with | .struct _ | .array _ _ => true | _ => false) = true) (hs : (P.info? ty).map (·.size) = some cs.size)
    (hu' : P.underlying tz = some e) (hd' : (match e with | .struct _ | .array _ _ => true | _ => false) = true) (hs' : (P.info? tz).map (·.size) = some ds.size) :
    (results fn tmps).run P w = .ok (.tuple #[.agg cs, .agg ds]) w := by
  rw [results_2cell h, hp, hq]
  simp [asAddr, run_loadVar_row w g t ty cs fr d hg hu hd hs, run_loadVar_row w i u tz ds fs e hi hu' hd' hs', Result.andThen]
theorem row6 {w : World} {g : Nat} {a0 a1 a2 a3 a4 a5 : Value} {t : TypeId} (h : w.heap[g]? = some (.cells #[a0, a1, a2, a3, a4, a5] t (0, 0))) (b0 b1 b2 b3 b4 b5 : Value) :
    ((((((w.setCell ⟨g, 0, none⟩ b0).setCell ⟨g, 1, none⟩ b1).setCell ⟨g, 2, none⟩ b2).setCell ⟨g, 3, none⟩ b3).setCell ⟨g, 4, none⟩ b4).setCell ⟨g, 5, none⟩ b5).heap[g]? = some (.cells #[b0, b1, b2, b3, b4, b5] t (0, 0)) := by
  have h1 : _ = some (Obj.cells #[b0, a1, a2, a3, a4, a5] t (0, 0)) := blk_set h 0 b0
  have h2 : _ = some (Obj.cells #[b0, b1, a2, a3, a4, a5] t (0, 0)) := blk_set h1 1 b1
  have h3 : _ = some (Obj.cells #[b0, b1, b2, a3, a4, a5] t (0, 0)) := blk_set h2 2 b2
  have h4 : _ = some (Obj.cells #[b0, b1, b2, b3, a4, a5] t (0, 0)) := blk_set h3 3 b3
  have h5 : _ = some (Obj.cells #[b0, b1, b2, b3, b4, a5] t (0, 0)) := blk_set h4 4 b4
  exact blk_set h5 5 b5
theorem grown6 (w : World) (g : Nat) (b0 b1 b2 b3 b4 b5 : Value) : w.grownBy ((((((w.setCell ⟨g, 0, none⟩ b0).setCell ⟨g, 1, none⟩ b1).setCell ⟨g, 2, none⟩ b2).setCell ⟨g, 3, none⟩ b3).setCell ⟨g, 4, none⟩ b4).setCell ⟨g, 5, none⟩ b5) (some g) := by
  have h0 := grown_set w g 0 b0
  have h1 := grown_setCell h0 1 b1
  have h2 := grown_setCell h1 2 b2
  have h3 := grown_setCell h2 3 b3
  have h4 := grown_setCell h3 4 b4
  exact grown_setCell h4 5 b5
theorem grown4 (w : World) (g : Nat) (b0 b1 b2 b3 : Value) : w.grownBy ((((w.setCell ⟨g, 0, none⟩ b0).setCell ⟨g, 1, none⟩ b1).setCell ⟨g, 2, none⟩ b2).setCell ⟨g, 3, none⟩ b3) (some g) := by
  have h0 := grown_set w g 0 b0
  have h1 := grown_setCell h0 1 b1
  have h2 := grown_setCell h1 2 b2
  exact grown_setCell h2 3 b3
theorem act_end {w V : World} {g h : Nat} {a0 a1 a2 a3 a4 a5 c0 c1 c2 c3 : Value} {t u : TypeId} (x : Ext w V) (hne : g ≠ h) (hg : w.heap.size ≤ g) (hh : w.heap.size ≤ h) (J : V.heap[g]? = some (.cells #[a0, a1, a2, a3, a4, a5] t (0, 0))) (I : V.heap[h]? = some (.cells #[c0, c1, c2, c3] u (0, 0))) (b0 b1 b2 b3 b4 b5 d0 d1 d2 d3 : Value) :
    ((((((((((V.setCell ⟨g, 0, none⟩ b0).setCell ⟨g, 1, none⟩ b1).setCell ⟨g, 2, none⟩ b2).setCell ⟨g, 3, none⟩ b3).setCell ⟨g, 4, none⟩ b4).setCell ⟨g, 5, none⟩ b5).setCell ⟨h, 0, none⟩ d0).setCell ⟨h, 1, none⟩ d1).setCell ⟨h, 2, none⟩ d2).setCell ⟨h, 3, none⟩ d3).drew.heap[g]? = some (.cells #[b0, b1, b2, b3, b4, b5] t (0, 0)) ∧ ((((((((((V.setCell ⟨g, 0, none⟩ b0).setCell ⟨g, 1, none⟩ b1).setCell ⟨g, 2, none⟩ b2).setCell ⟨g, 3, none⟩ b3).setCell ⟨g, 4, none⟩ b4).setCell ⟨g, 5, none⟩ b5).setCell ⟨h, 0, none⟩ d0).setCell ⟨h, 1, none⟩ d1).setCell ⟨h, 2, none⟩ d2).setCell ⟨h, 3, none⟩ d3).drew.heap[h]? = some (.cells #[d0, d1, d2, d3] u (0, 0)) ∧ Ext w ((((((((((V.setCell ⟨g, 0, none⟩ b0).setCell ⟨g, 1, none⟩ b1).setCell ⟨g, 2, none⟩ b2).setCell ⟨g, 3, none⟩ b3).setCell ⟨g, 4, none⟩ b4).setCell ⟨g, 5, none⟩ b5).setCell ⟨h, 0, none⟩ d0).setCell ⟨h, 1, none⟩ d1).setCell ⟨h, 2, none⟩ d2).setCell ⟨h, 3, none⟩ d3).drew ∧ GB V ((((((((((V.setCell ⟨g, 0, none⟩ b0).setCell ⟨g, 1, none⟩ b1).setCell ⟨g, 2, none⟩ b2).setCell ⟨g, 3, none⟩ b3).setCell ⟨g, 4, none⟩ b4).setCell ⟨g, 5, none⟩ b5).setCell ⟨h, 0, none⟩ d0).setCell ⟨h, 1, none⟩ d1).setCell ⟨h, 2, none⟩ d2).setCell ⟨h, 3, none⟩ d3).drew (fun i => i = g ∨ i = h) := by
  obtain ⟨V6, h6⟩ : ∃ V6, ((((((V.setCell ⟨g, 0, none⟩ b0).setCell ⟨g, 1, none⟩ b1).setCell ⟨g, 2, none⟩ b2).setCell ⟨g, 3, none⟩ b3).setCell ⟨g, 4, none⟩ b4).setCell ⟨g, 5, none⟩ b5) = V6 := ⟨_, rfl⟩
  have r6 := row6 J b0 b1 b2 b3 b4 b5
  have g6 := grown6 V g b0 b1 b2 b3 b4 b5
  rw [h6] at r6 g6 ⊢
  have g4 := grown4 V6 h d0 d1 d2 d3
  exact ⟨blk_drew (blk_grown r6 g4 hne), blk_drew (row4 (blk_grown I g6 (fun e => hne e.symm)) d0 d1 d2 d3), (ext_grown (ext_grown x g6 hg) g4 hh).drew, (((GB.refl V (fun i => i = g ∨ i = h)).grown g6 (fun q e => by injection e with e; exact .inl (.inl e.symm))).grown g4 (fun q e => by injection e with e; exact .inl (.inr e.symm))).drew⟩
/-- a reply, and the cell behind it -/
def BActR (X : Nat → Prop) (rep : KRep) (ce : PCell) (w : World) (e : Ending) (w' : World) : Prop :=
  ∃ r, e = .returned (.tuple #[.agg #[.int .i64 (rep.er : Int), .bool rep.granted, .int .i64 rep.left, .int .i64 rep.wait, .int .i64 rep.ser, .int .i64 rep.now], .agg #[.int .i64 (ce.pol : Int), .slice r.K ce.key.length r.kc, .int .i64 ce.tat, .slice r.H ce.held.length r.hc]]) ∧ PartsF w' X r ce ∧ Ext w w'
set_option maxHeartbeats 2000000 in
theorem bacquire_ok (w : World) (X : Nat → Prop) (p : Pol) (ce : PCell) (r : CRef) (ser : Int) (hX : Newer w X) (hP : PartsF w X r ce) (hs : Ser ser) (hF : Form p.perm ce.held) (hm : ser ∉ ce.held) (hlt : (ce.held.length : Int) < p.perm) :
    Calls Tryz.prog 251 #[.agg #[.int .u8 (p.kind : Int), .int .i64 p.T, .int .i64 p.Tau, .int .i64 p.perm], .agg #[.int .i64 (ce.pol : Int), .slice r.K ce.key.length r.kc, .int .i64 ce.tat, .slice r.H ce.held.length r.hc], .int .i64 ser] w (BActR X (acqK p ce ser).1 (acqK p ce ser).2 w) := by
  obtain ⟨n, Hn⟩ : ∃ n, Hid (ce.held.length = n) := ⟨_, rfl⟩
  obtain ⟨kl, Hk⟩ : ∃ n, Hid (ce.key.length = n) := ⟨_, rfl⟩
  obtain ⟨xs, Hxs⟩ : ∃ n, Hid (insL ce.held (atI ce.held ser) ser = n) := ⟨_, rfl⟩
  have hat := atI_at hF.2.2.2 ser
  have hxl : xs.length = n + 1 := by rw [← Hxs.out, insL_len ser hat.1, Hn.out]
  obtain ⟨W, hW⟩ : ∃ W, ((((w.alloc (.cells #[.int .u8 (p.kind : Int), .int .i64 p.T, .int .i64 p.Tau, .int .i64 p.perm] 80)).alloc (.cells #[.int .i64 (ce.pol : Int), .slice r.K kl r.kc, .int .i64 ce.tat, .slice r.H n r.hc] 62)).alloc (.cells #[.int .i64 0, .bool false, .int .i64 0, .int .i64 0, .int .i64 0, .int .i64 0] 39)).alloc (.cells #[.int .i64 0, .slice none 0 0, .int .i64 0, .slice none 0 0] 62)) = W := ⟨_, rfl⟩
  have xW : Ext w W := by rw [← hW]; exact (((((Ext.refl w).alloc _).alloc _).alloc _).alloc _)
  have K0 := show W.heap[w.heap.size]? = some (.cells #[.int .u8 (p.kind : Int), .int .i64 p.T, .int .i64 p.Tau, .int .i64 p.perm] 80 (0, 0)) by rw [← hW]; exact blk_past (blk_past (blk_past (blk_new w _) _) _) _
  have K1 := show W.heap[w.heap.size + 1]? = some (.cells #[.int .i64 (ce.pol : Int), .slice r.K kl r.kc, .int .i64 ce.tat, .slice r.H n r.hc] 62 (0, 0)) by rw [← hW]; exact blk_past (blk_past (blk_newk _ _ (by simp)) _) _
  have K2 := show W.heap[w.heap.size + 1 + 1]? = some (.cells #[.int .i64 0, .bool false, .int .i64 0, .int .i64 0, .int .i64 0, .int .i64 0] 39 (0, 0)) by rw [← hW]; exact blk_past (blk_newk _ _ (by simp)) _
  have K3 := show W.heap[w.heap.size + 1 + 1 + 1]? = some (.cells #[.int .i64 0, .slice none 0 0, .int .i64 0, .slice none 0 0] 62 (0, 0)) by rw [← hW]; exact blk_newk _ _ (by simp)
  have TK := Lib.hid (take_ok W p.perm ser r.H n r.hc (atI ce.held ser) ce.held Hn.out (hP.1.2.2.2.ext xW) hs hF hat hm (by rw [← Hn.out]; exact hlt))
  rw [Hxs.out] at TK
  have H0 := Lib.hid K0; have H1 := Lib.hid K1; have H2 := Lib.hid K2; have H3 := Lib.hid K3
  have hn64 : n ≤ 64 := by have := hF.2.1; have := hF.2.2.1; have := Hn.out; omega
  have hp64 : p.perm ≤ 64 := hF.2.1
  have hp0 : 0 ≤ p.perm := by have := hF.1; omega
  have HP := Lib.hid hP; have XW := Lib.hid xW; have HX := Lib.hid hX; have HL := Lib.hid hxl
  have a2 := blk_cell K0 3
  have b3 := blk_cell K1 3
  rw [Hk.out, Hn.out]
  clear hP hs hF hm hlt hat xW K0 K1 K2 K3 hX hxl
  have HW := Lib.hid hW
  clear hW
  go_enter Tryz.func251, Tryz.ntmps251
  go_upto_region 1 with fail
  (try rw [HW.out])
  clear HW
  go_wp2_with fail
  refine TK.out.mono ?_
  rintro e w1 ⟨A1, c1, rfl, o1, x1⟩
  have O1 := Lib.hid o1; have X1 := Lib.hid x1
  have I0 := Lib.hid (blk_ext H0.out x1); have I1 := Lib.hid (blk_ext H1.out x1); have I2 := Lib.hid (blk_ext H2.out x1); have I3 := Lib.hid (blk_ext H3.out x1)
  clear a2 b3 o1 x1
  have a3 := blk_cell I0.out 3
  have b0 := blk_cell I1.out 0; have b1 := blk_cell I1.out 1; have b2 := blk_cell I1.out 2; have b3 := blk_cell I1.out 3; have y3 := blk_frozen I1.out 3
  have r0 := blk_cell I2.out 0; have r1 := blk_cell I2.out 1; have r2 := blk_cell I2.out 2; have r3 := blk_cell I2.out 3; have r4 := blk_cell I2.out 4; have r5 := blk_cell I2.out 5
  have z0 := blk_frozen I2.out 0; have z1 := blk_frozen I2.out 1; have z2 := blk_frozen I2.out 2; have z3 := blk_frozen I2.out 3; have z4 := blk_frozen I2.out 4; have z5 := blk_frozen I2.out 5
  have s0 := blk_cell I3.out 0; have s1 := blk_cell I3.out 1; have s2 := blk_cell I3.out 2; have s3 := blk_cell I3.out 3
  have u0 := blk_frozen I3.out 0; have u1 := blk_frozen I3.out 1; have u2 := blk_frozen I3.out 2; have u3 := blk_frozen I3.out 3
  have hz := X1.out.size
  have hz0 := blk_lt H3.out
  have y3' := fz_past I1.out 3 (.cells #[.int .i64 p.perm, .slice A1 (n + 1) c1] 369)
  have b3' := cell_past b3 (.cells #[.int .i64 p.perm, .slice A1 (n + 1) c1] 369)
  go_upto_region 5 with fail
  obtain ⟨V, hV⟩ : ∃ V, (w1.alloc (.cells #[.int .i64 p.perm, .slice A1 (n + 1) c1] 369)).setCell ⟨w.heap.size + 1, 3, none⟩ (.slice A1 (n + 1) c1) = V := ⟨_, rfl⟩
  have gV : GB w1 V (· = w.heap.size + 1) := by rw [← hV]; exact ((GB.refl w1 (· = w.heap.size + 1)).alloc _).set _ 3 _ (.inl rfl)
  have J0 := Lib.hid (gV.blk I0.out (by omega)); have J2 := Lib.hid (gV.blk I2.out (by omega)); have J3 := Lib.hid (gV.blk I3.out (by omega))
  have J1 := Lib.hid (show V.heap[w.heap.size + 1]? = some (.cells #[.int .i64 (ce.pol : Int), .slice r.K kl r.kc, .int .i64 ce.tat, .slice A1 (n + 1) c1] 62 (0, 0)) by rw [← hV]; exact blk_set (blk_past I1.out _) 3 _)
  rw [hV]
  have GV := Lib.hid gV
  clear a3 b0 b1 b2 b3 y3 r0 r1 r2 r3 r4 r5 z0 z1 z2 z3 z4 z5 s0 s1 s2 s3 u0 u1 u2 u3 hV gV y3' b3'
  have a3 := blk_cell J0.out 3
  have b0 := blk_cell J1.out 0; have b1 := blk_cell J1.out 1; have b2 := blk_cell J1.out 2; have b3 := blk_cell J1.out 3
  have r0 := blk_cell J2.out 0; have r1 := blk_cell J2.out 1; have r2 := blk_cell J2.out 2; have r3 := blk_cell J2.out 3; have r4 := blk_cell J2.out 4; have r5 := blk_cell J2.out 5
  have z0 := blk_frozen J2.out 0; have z1 := blk_frozen J2.out 1; have z2 := blk_frozen J2.out 2; have z3 := blk_frozen J2.out 3; have z4 := blk_frozen J2.out 4; have z5 := blk_frozen J2.out 5
  have s0 := blk_cell J3.out 0; have s1 := blk_cell J3.out 1; have s2 := blk_cell J3.out 2; have s3 := blk_cell J3.out 3
  have u0 := blk_frozen J3.out 0; have u1 := blk_frozen J3.out 1; have u2 := blk_frozen J3.out 2; have u3 := blk_frozen J3.out 3
  go_region
  go_wp2_with fail
  have hwV : Ext w V := GB.to_ext (GV.out.more (S' := fun i => w.heap.size ≤ i) (fun i _ e => by omega)) (XW.out.trans X1.out) (fun i e => e)
  obtain ⟨e1, e2, e3, e4⟩ := act_end hwV (by omega : w.heap.size + 1 + 1 ≠ w.heap.size + 1 + 1 + 1) (by omega) (by omega) J2.out J3.out (.int .i64 0) (.bool true) (.int .i64 (p.perm - ((n : Int) + 1))) (.int .i64 0) (.int .i64 ser) (.int .i64 0) (.int .i64 (ce.pol : Int)) (.slice r.K kl r.kc) (.int .i64 ce.tat) (.slice A1 (n + 1) c1)
  refine bodyPost_ret (results_2cell_row (p := 6) (q := 7) rfl _ _ (w.heap.size + 1 + 1) (w.heap.size + 1 + 1 + 1) _ _ _ _ (0, 0) (0, 0) _ _ rfl e1 rfl e2 Tryz.underlying39 (by rfl) (by kernel_rfl) Tryz.underlying62 (by rfl) (by kernel_rfl)) rfl ?_
  have hxl := HL.out
  have hwW := XW.out.size
  have hO := e4.own (GV.out.own O1.out (fun q e e2 => by have := own_ge O1.out q e; have := blk_lt H3.out; omega)) (fun q e e2 => by have := own_ge O1.out q e; have := blk_lt H3.out; omega)
  have hPx := HP.out.ext e3
  refine ⟨⟨r.K, r.kc, A1, c1⟩, ?_, ⟨⟨hPx.1.1, hPx.1.2.1, ?_, ?_⟩, hPx.2.1, fz_of_own hO (fun i hi => Nat.lt_of_lt_of_le (HX.out i hi) hwW)⟩, e3⟩
  · unfold acqK
    rw [Hxs.out, hxl, Hk.out, Hn.out]
    rfl
  · show (insL ce.held (atI ce.held ser) ser).length ≤ c1
    rw [Hxs.out, hxl]
    exact own_cap hO
  · show Rd _ A1 (ivals (insL ce.held (atI ce.held ser) ser))
    rw [Hxs.out]
    exact Rd.of_own hO
end

section
open Go.RowKit

set_option maxHeartbeats 2000000 in
theorem brelease_ok (w : World) (X : Nat → Prop) (p : Pol) (ce : PCell) (r : CRef) (ser : Int) (hX : Newer w X) (hP : PartsF w X r ce) (hF : Form p.perm ce.held) (hm : ser ∈ ce.held) :
    Calls Tryz.prog 194 #[.agg #[.int .u8 (p.kind : Int), .int .i64 p.T, .int .i64 p.Tau, .int .i64 p.perm], .agg #[.int .i64 (ce.pol : Int), .slice r.K ce.key.length r.kc, .int .i64 ce.tat, .slice r.H ce.held.length r.hc], .int .i64 ser] w (BActR X (relK p ce ser).1 (relK p ce ser).2 w) := by
  obtain ⟨n, Hn⟩ : ∃ n, Hid (ce.held.length = n) := ⟨_, rfl⟩
  obtain ⟨kl, Hk⟩ : ∃ n, Hid (ce.key.length = n) := ⟨_, rfl⟩
  obtain ⟨xs, Hxs⟩ : ∃ n, Hid (delL ce.held (atI ce.held ser) = n) := ⟨_, rfl⟩
  have hat := atI_at hF.2.2.2 ser
  have hka := ((at_mem hat hF.2.2.2).1 hm).1
  obtain ⟨m, Hm⟩ : ∃ m, Hid (n = m + 1) := ⟨n - 1, by have := Hn.out; unfold Hid; omega⟩
  have hxl : xs.length = m := by rw [← Hxs.out, delL_len hka, Hn.out, Hm.out, Nat.add_sub_cancel]
  have HR := Lib.hid (show relK p ce ser = (⟨0, true, p.perm - (m : Int), 0, 0, 0⟩, { ce with held := xs }) by
    unfold relK
    rw [if_pos hm, Hxs.out, Hn.out, Hm.out]
    congr 2
    omega)
  obtain ⟨W, hW⟩ : ∃ W, ((((w.alloc (.cells #[.int .u8 (p.kind : Int), .int .i64 p.T, .int .i64 p.Tau, .int .i64 p.perm] 80)).alloc (.cells #[.int .i64 (ce.pol : Int), .slice r.K kl r.kc, .int .i64 ce.tat, .slice r.H n r.hc] 62)).alloc (.cells #[.int .i64 0, .bool false, .int .i64 0, .int .i64 0, .int .i64 0, .int .i64 0] 39)).alloc (.cells #[.int .i64 0, .slice none 0 0, .int .i64 0, .slice none 0 0] 62)) = W := ⟨_, rfl⟩
  have xW : Ext w W := by rw [← hW]; exact (((((Ext.refl w).alloc _).alloc _).alloc _).alloc _)
  have K0 := show W.heap[w.heap.size]? = some (.cells #[.int .u8 (p.kind : Int), .int .i64 p.T, .int .i64 p.Tau, .int .i64 p.perm] 80 (0, 0)) by rw [← hW]; exact blk_past (blk_past (blk_past (blk_new w _) _) _) _
  have K1 := show W.heap[w.heap.size + 1]? = some (.cells #[.int .i64 (ce.pol : Int), .slice r.K kl r.kc, .int .i64 ce.tat, .slice r.H n r.hc] 62 (0, 0)) by rw [← hW]; exact blk_past (blk_past (blk_newk _ _ (by simp)) _) _
  have K2 := show W.heap[w.heap.size + 1 + 1]? = some (.cells #[.int .i64 0, .bool false, .int .i64 0, .int .i64 0, .int .i64 0, .int .i64 0] 39 (0, 0)) by rw [← hW]; exact blk_past (blk_newk _ _ (by simp)) _
  have K3 := show W.heap[w.heap.size + 1 + 1 + 1]? = some (.cells #[.int .i64 0, .slice none 0 0, .int .i64 0, .slice none 0 0] 62 (0, 0)) by rw [← hW]; exact blk_newk _ _ (by simp)
  have TK := Lib.hid (give_ok W p.perm ser r.H n r.hc (atI ce.held ser) ce.held Hn.out (hP.1.2.2.2.ext xW) hF hat hm)
  rw [Hxs.out, show n - 1 = m by rw [Hm.out, Nat.add_sub_cancel]] at TK
  have H0 := Lib.hid K0; have H1 := Lib.hid K1; have H2 := Lib.hid K2; have H3 := Lib.hid K3
  have hn64 : n ≤ 64 := by have := hF.2.1; have := hF.2.2.1; have := Hn.out; omega
  have hm64 : m ≤ 64 := by have := Hm.out; omega
  have hp64 : p.perm ≤ 64 := hF.2.1
  have hp0 : 0 ≤ p.perm := by have := hF.1; omega
  have HP := Lib.hid hP; have XW := Lib.hid xW; have HX := Lib.hid hX; have HL := Lib.hid hxl
  have a2 := blk_cell K0 3
  have b3 := blk_cell K1 3
  rw [Hk.out, Hn.out]
  clear hP hF hm hat hka xW K0 K1 K2 K3 hX hxl
  have HW := Lib.hid hW
  clear hW
  go_enter Tryz.func194, Tryz.ntmps194
  go_upto_region 1 with fail
  (try rw [HW.out])
  clear HW
  go_wp2_with fail
  refine TK.out.mono ?_
  rintro e w1 ⟨A1, c1, rfl, o1, x1⟩
  have O1 := Lib.hid o1; have X1 := Lib.hid x1
  have I0 := Lib.hid (blk_ext H0.out x1); have I1 := Lib.hid (blk_ext H1.out x1); have I2 := Lib.hid (blk_ext H2.out x1); have I3 := Lib.hid (blk_ext H3.out x1)
  clear a2 b3 o1 x1
  have a3 := blk_cell I0.out 3
  have b0 := blk_cell I1.out 0; have b1 := blk_cell I1.out 1; have b2 := blk_cell I1.out 2; have b3 := blk_cell I1.out 3; have y3 := blk_frozen I1.out 3
  have r0 := blk_cell I2.out 0; have r1 := blk_cell I2.out 1; have r2 := blk_cell I2.out 2; have r3 := blk_cell I2.out 3; have r4 := blk_cell I2.out 4; have r5 := blk_cell I2.out 5
  have z0 := blk_frozen I2.out 0; have z1 := blk_frozen I2.out 1; have z2 := blk_frozen I2.out 2; have z3 := blk_frozen I2.out 3; have z4 := blk_frozen I2.out 4; have z5 := blk_frozen I2.out 5
  have s0 := blk_cell I3.out 0; have s1 := blk_cell I3.out 1; have s2 := blk_cell I3.out 2; have s3 := blk_cell I3.out 3
  have u0 := blk_frozen I3.out 0; have u1 := blk_frozen I3.out 1; have u2 := blk_frozen I3.out 2; have u3 := blk_frozen I3.out 3
  have hz := X1.out.size
  have hz0 := blk_lt H3.out
  have y3' := fz_past I1.out 3 (.cells #[.int .i64 p.perm, .slice A1 m c1] 369)
  have b3' := cell_past b3 (.cells #[.int .i64 p.perm, .slice A1 m c1] 369)
  go_upto_region 5 with fail
  obtain ⟨V, hV⟩ : ∃ V, (w1.alloc (.cells #[.int .i64 p.perm, .slice A1 m c1] 369)).setCell ⟨w.heap.size + 1, 3, none⟩ (.slice A1 m c1) = V := ⟨_, rfl⟩
  have gV : GB w1 V (· = w.heap.size + 1) := by rw [← hV]; exact ((GB.refl w1 (· = w.heap.size + 1)).alloc _).set _ 3 _ (.inl rfl)
  have J0 := Lib.hid (gV.blk I0.out (by omega)); have J2 := Lib.hid (gV.blk I2.out (by omega)); have J3 := Lib.hid (gV.blk I3.out (by omega))
  have J1 := Lib.hid (show V.heap[w.heap.size + 1]? = some (.cells #[.int .i64 (ce.pol : Int), .slice r.K kl r.kc, .int .i64 ce.tat, .slice A1 m c1] 62 (0, 0)) by rw [← hV]; exact blk_set (blk_past I1.out _) 3 _)
  rw [hV]
  have GV := Lib.hid gV
  clear a3 b0 b1 b2 b3 y3 r0 r1 r2 r3 r4 r5 z0 z1 z2 z3 z4 z5 s0 s1 s2 s3 u0 u1 u2 u3 hV gV y3' b3'
  have a3 := blk_cell J0.out 3
  have b0 := blk_cell J1.out 0; have b1 := blk_cell J1.out 1; have b2 := blk_cell J1.out 2; have b3 := blk_cell J1.out 3
  have r0 := blk_cell J2.out 0; have r1 := blk_cell J2.out 1; have r2 := blk_cell J2.out 2; have r3 := blk_cell J2.out 3; have r4 := blk_cell J2.out 4; have r5 := blk_cell J2.out 5
  have z0 := blk_frozen J2.out 0; have z1 := blk_frozen J2.out 1; have z2 := blk_frozen J2.out 2; have z3 := blk_frozen J2.out 3; have z4 := blk_frozen J2.out 4; have z5 := blk_frozen J2.out 5
  have s0 := blk_cell J3.out 0; have s1 := blk_cell J3.out 1; have s2 := blk_cell J3.out 2; have s3 := blk_cell J3.out 3
  have u0 := blk_frozen J3.out 0; have u1 := blk_frozen J3.out 1; have u2 := blk_frozen J3.out 2; have u3 := blk_frozen J3.out 3
  go_region
  go_wp2_with fail
  have hwV : Ext w V := GB.to_ext (GV.out.more (S' := fun i => w.heap.size ≤ i) (fun i _ e => by omega)) (XW.out.trans X1.out) (fun i e => e)
  obtain ⟨e1, e2, e3, e4⟩ := act_end hwV (by omega : w.heap.size + 1 + 1 ≠ w.heap.size + 1 + 1 + 1) (by omega) (by omega) J2.out J3.out (.int .i64 0) (.bool true) (.int .i64 (p.perm - (m : Int))) (.int .i64 0) (.int .i64 0) (.int .i64 0) (.int .i64 (ce.pol : Int)) (.slice r.K kl r.kc) (.int .i64 ce.tat) (.slice A1 m c1)
  refine bodyPost_ret (results_2cell_row (p := 6) (q := 7) rfl _ _ (w.heap.size + 1 + 1) (w.heap.size + 1 + 1 + 1) _ _ _ _ (0, 0) (0, 0) _ _ rfl e1 rfl e2 Tryz.underlying39 (by rfl) (by kernel_rfl) Tryz.underlying62 (by rfl) (by kernel_rfl)) rfl ?_
  have hxl := HL.out
  have hwW := XW.out.size
  have hO := e4.own (GV.out.own O1.out (fun q e e2 => by have := own_ge O1.out q e; have := blk_lt H3.out; omega)) (fun q e e2 => by have := own_ge O1.out q e; have := blk_lt H3.out; omega)
  have hPx := HP.out.ext e3
  rw [HR.out]
  refine ⟨⟨r.K, r.kc, A1, c1⟩, ?_, ⟨⟨hPx.1.1, hPx.1.2.1, ?_, ?_⟩, hPx.2.1, fz_of_own hO (fun i hi => Nat.lt_of_lt_of_le (HX.out i hi) hwW)⟩, e3⟩
  · dsimp only
    rw [hxl, Hk.out]
    rfl
  · show xs.length ≤ c1
    rw [hxl]
    exact own_cap hO
  · exact Rd.of_own hO
set_option maxHeartbeats 2000000 in
theorem brelease_err (w : World) (X : Nat → Prop) (p : Pol) (ce : PCell) (r : CRef) (ser : Int) (hX : Newer w X) (hP : PartsF w X r ce) (hF : Form p.perm ce.held) (hm : ser ∉ ce.held) :
    Calls Tryz.prog 194 #[.agg #[.int .u8 (p.kind : Int), .int .i64 p.T, .int .i64 p.Tau, .int .i64 p.perm], .agg #[.int .i64 (ce.pol : Int), .slice r.K ce.key.length r.kc, .int .i64 ce.tat, .slice r.H ce.held.length r.hc], .int .i64 ser] w (BActR X (errR 11) ce w) := by
  obtain ⟨n, Hn⟩ : ∃ n, Hid (ce.held.length = n) := ⟨_, rfl⟩
  obtain ⟨kl, Hk⟩ : ∃ n, Hid (ce.key.length = n) := ⟨_, rfl⟩
  have hn0 : n ≤ 17592186044416 := by have := hF.2.1; have := hF.2.2.1; have := Hn.out; omega
  obtain ⟨W, hW⟩ : ∃ W, ((((w.alloc (.cells #[.int .u8 (p.kind : Int), .int .i64 p.T, .int .i64 p.Tau, .int .i64 p.perm] 80)).alloc (.cells #[.int .i64 (ce.pol : Int), .slice r.K kl r.kc, .int .i64 ce.tat, .slice r.H n r.hc] 62)).alloc (.cells #[.int .i64 0, .bool false, .int .i64 0, .int .i64 0, .int .i64 0, .int .i64 0] 39)).alloc (.cells #[.int .i64 0, .slice none 0 0, .int .i64 0, .slice none 0 0] 62)) = W := ⟨_, rfl⟩
  have xW : Ext w W := by rw [← hW]; exact (((((Ext.refl w).alloc _).alloc _).alloc _).alloc _)
  have K0 := show W.heap[w.heap.size]? = some (.cells #[.int .u8 (p.kind : Int), .int .i64 p.T, .int .i64 p.Tau, .int .i64 p.perm] 80 (0, 0)) by rw [← hW]; exact blk_past (blk_past (blk_past (blk_new w _) _) _) _
  have K1 := show W.heap[w.heap.size + 1]? = some (.cells #[.int .i64 (ce.pol : Int), .slice r.K kl r.kc, .int .i64 ce.tat, .slice r.H n r.hc] 62 (0, 0)) by rw [← hW]; exact blk_past (blk_past (blk_newk _ _ (by simp)) _) _
  have K2 := show W.heap[w.heap.size + 1 + 1]? = some (.cells #[.int .i64 0, .bool false, .int .i64 0, .int .i64 0, .int .i64 0, .int .i64 0] 39 (0, 0)) by rw [← hW]; exact blk_past (blk_newk _ _ (by simp)) _
  have K3 := show W.heap[w.heap.size + 1 + 1 + 1]? = some (.cells #[.int .i64 0, .slice none 0 0, .int .i64 0, .slice none 0 0] 62 (0, 0)) by rw [← hW]; exact blk_newk _ _ (by simp)
  have TK := Lib.hid (give_err W p.perm ser r.H n r.hc ce.held 11 Hn.out hn0 (hP.1.2.2.2.ext xW) (.inr ⟨hF, hm, rfl⟩))
  have H0 := Lib.hid K0; have H1 := Lib.hid K1; have H2 := Lib.hid K2; have H3 := Lib.hid K3
  have hn64 : n ≤ 64 := by have := hF.2.1; have := hF.2.2.1; have := Hn.out; omega
  have hp64 : p.perm ≤ 64 := hF.2.1
  have hp0 : 0 ≤ p.perm := by have := hF.1; omega
  have HP := Lib.hid hP; have XW := Lib.hid xW; have HX := Lib.hid hX
  have a2 := blk_cell K0 3
  have b3 := blk_cell K1 3
  rw [Hk.out, Hn.out]
  clear hP hF hm xW K0 K1 K2 K3 hX
  have HW := Lib.hid hW
  clear hW
  go_enter Tryz.func194, Tryz.ntmps194
  go_upto_region 1 with fail
  (try rw [HW.out])
  clear HW
  go_wp2_with fail
  refine TK.out.mono ?_
  rintro e w1 ⟨A1, c1, rfl, o1, x1⟩
  have X1 := Lib.hid x1
  have I1 := Lib.hid (blk_ext H1.out x1); have I2 := Lib.hid (blk_ext H2.out x1); have I3 := Lib.hid (blk_ext H3.out x1)
  clear a2 b3 o1 x1
  have hz := X1.out.size
  have hz0 := blk_lt H3.out
  obtain ⟨V, hV⟩ : ∃ V, w1.alloc (.cells #[.int .i64 0, .slice A1 0 c1] 369) = V := ⟨_, rfl⟩
  have xV : Ext w1 V := by rw [← hV]; exact (Ext.refl w1).alloc _
  have J1 := Lib.hid (blk_ext I1.out xV); have J2 := Lib.hid (blk_ext I2.out xV); have J3 := Lib.hid (blk_ext I3.out xV)
  have XV := Lib.hid xV
  have HV := Lib.hid hV
  clear hV xV
  go_upto_region 3 with fail
  (try rw [HV.out])
  have b0 := blk_cell J1.out 0; have b1 := blk_cell J1.out 1; have b2 := blk_cell J1.out 2; have b3 := blk_cell J1.out 3
  have r0 := blk_cell J2.out 0; have r1 := blk_cell J2.out 1; have r2 := blk_cell J2.out 2; have r3 := blk_cell J2.out 3; have r4 := blk_cell J2.out 4; have r5 := blk_cell J2.out 5
  have z0 := blk_frozen J2.out 0; have z1 := blk_frozen J2.out 1; have z2 := blk_frozen J2.out 2; have z3 := blk_frozen J2.out 3; have z4 := blk_frozen J2.out 4; have z5 := blk_frozen J2.out 5
  have s0 := blk_cell J3.out 0; have s1 := blk_cell J3.out 1; have s2 := blk_cell J3.out 2; have s3 := blk_cell J3.out 3
  have u0 := blk_frozen J3.out 0; have u1 := blk_frozen J3.out 1; have u2 := blk_frozen J3.out 2; have u3 := blk_frozen J3.out 3
  go_region
  go_wp2_with fail
  have hwV : Ext w V := XW.out.trans (X1.out.trans XV.out)
  obtain ⟨e1, e2, e3, -⟩ := act_end hwV (by omega : w.heap.size + 1 + 1 ≠ w.heap.size + 1 + 1 + 1) (by omega) (by omega) J2.out J3.out (.int .i64 11) (.bool false) (.int .i64 0) (.int .i64 0) (.int .i64 0) (.int .i64 0) (.int .i64 (ce.pol : Int)) (.slice r.K kl r.kc) (.int .i64 ce.tat) (.slice r.H n r.hc)
  refine bodyPost_ret (results_2cell_row (p := 6) (q := 7) rfl _ _ (w.heap.size + 1 + 1) (w.heap.size + 1 + 1 + 1) _ _ _ _ (0, 0) (0, 0) _ _ rfl e1 rfl e2 Tryz.underlying39 (by rfl) (by kernel_rfl) Tryz.underlying62 (by rfl) (by kernel_rfl)) rfl ?_
  exact ⟨r, by rw [Hk.out, Hn.out]; rfl, HP.out.ext e3, e3⟩
end

section
open Go.RowKit

theorem cell_o4 {w : World} {p : Addr} {v : Value} {g : Nat} {b0 b1 b2 b3 : Value} (h : w.cell? p = some v) (hne : p.block ≠ g) : ((((w.setCell ⟨g, 0, none⟩ b0).setCell ⟨g, 1, none⟩ b1).setCell ⟨g, 2, none⟩ b2).setCell ⟨g, 3, none⟩ b3).cell? p = some v := by
  have h0 := cell_other (g := g) (i := 0) (u := b0) h hne
  have h1 := cell_other (g := g) (i := 1) (u := b1) h0 hne
  have h2 := cell_other (g := g) (i := 2) (u := b2) h1 hne
  exact cell_other (g := g) (i := 3) (u := b3) h2 hne
/-- a cell was found; it lies in a new box -/
def FMid (W : World) (X : Nat → Prop) (at_ : Nat) (has : Bool) (ce : PCell) (v11 v12 v13 : Value) (wd : World) : Prop :=
  ∃ b t r, v11 = .int .i64 (at_ : Int) ∧ v12 = .bool has ∧ v13 = .pointer (some ⟨b, 0, none⟩) ∧ wd.heap[b]? = some (.cells #[.int .i64 (ce.pol : Int), .slice r.K ce.key.length r.kc, .int .i64 ce.tat, .slice r.H ce.held.length r.hc] t (0, 0)) ∧ W.heap.size ≤ b ∧ PartsF wd X r ce ∧ Ext W wd
theorem fmid_last {W w2 : World} {X : Nat → Prop} {at_ : Nat} {has : Bool} {ce : PCell} {r : CRef} {t : TypeId} (hp : PartsF w2 X r ce) (hx : Ext W w2) :
    FMid W X at_ has ce (.int .i64 (at_ : Int)) (.bool has) (.pointer (some ⟨w2.heap.size, 0, none⟩)) (w2.alloc (.cells #[.int .i64 (ce.pol : Int), .slice r.K ce.key.length r.kc, .int .i64 ce.tat, .slice r.H ce.held.length r.hc] t)) :=
  ⟨_, t, r, rfl, rfl, rfl, blk_new w2 _, hx.size, hp.ext ((Ext.refl w2).alloc _), hx.alloc _⟩
theorem fmid_first {W w2 : World} {X : Nat → Prop} {at_ : Nat} {has : Bool} {ce : PCell} {r : CRef} {t : TypeId} {b : Nat} {a0 a1 a2 a3 : Value} (hp : PartsF w2 X r ce) (hx : Ext W w2) (hb : w2.heap[b]? = some (.cells #[a0, a1, a2, a3] t (0, 0))) (hW : W.heap.size ≤ b) (hpb : ∀ u, GB w2 u (· = b) → PartsF u X r ce) :
    FMid W X at_ has ce (.int .i64 (at_ : Int)) (.bool has) (.pointer (some ⟨b, 0, none⟩)) ((((w2.setCell ⟨b, 0, none⟩ (.int .i64 (ce.pol : Int))).setCell ⟨b, 1, none⟩ (.slice r.K ce.key.length r.kc)).setCell ⟨b, 2, none⟩ (.int .i64 ce.tat)).setCell ⟨b, 3, none⟩ (.slice r.H ce.held.length r.hc)) :=
  ⟨b, t, r, rfl, rfl, rfl, row4 hb _ _ _ _, hW, hpb _ ((GB.refl w2 (· = b)).grown (grown4 w2 b _ _ _ _) (fun q e => by injection e with e; exact .inl e.symm)), ext4 hx hW _ _ _ _⟩
theorem fmid_two {W w2 : World} {X : Nat → Prop} {at_ : Nat} {has : Bool} {ce : PCell} {r : CRef} {t : TypeId} {a0 a1 a2 a3 : Value} (hp : PartsF w2 (XG X W.heap.size) r ce) (hx : Ext W w2) (hb : w2.heap[W.heap.size]? = some (.cells #[a0, a1, a2, a3] t (0, 0))) :
    FMid W X at_ has ce (.int .i64 (at_ : Int)) (.bool has) (.pointer (some ⟨W.heap.size, 0, none⟩)) ((((w2.setCell ⟨W.heap.size, 0, none⟩ (.int .i64 (ce.pol : Int))).setCell ⟨W.heap.size, 1, none⟩ (.slice r.K ce.key.length r.kc)).setCell ⟨W.heap.size, 2, none⟩ (.int .i64 ce.tat)).setCell ⟨W.heap.size, 3, none⟩ (.slice r.H ce.held.length r.hc)) :=
  fmid_first (hp.kp (Kp.of (S := fun _ => False) (GB.refl w2 _) (fun _ _ e => e.elim) (fun _ _ e => .inl e))) hx hb (Nat.le_refl _) (fun u gb => hp.kp (Kp.of gb (fun _ _ e => .inr e) (fun _ _ e => .inl e)))
end

section
open Go.RowKit

set_option maxHeartbeats 2000000 in
/-- no serial as yet: one is drawn -/
theorem cacquire_first (w : World) (X : Nat → Prop) (d : CId) (f : Found) (n c : Nat) (A : Option Addr) (rs : List CRef) (ce : PCell) (r : CRef) (hX : Newer w X) (hn : f.cells.length = n) (hf : CellsF w X A f.cells rs) (hP : PartsF w X r ce) (hne : (ce.held.length : Int) ≠ d.pol.perm) (h8 : w.cell? ⟨d.xb, 8, none⟩ = some (.int .i64 0)) :
    Calls Tryz.prog 193 #[ptrV d.xb, .agg #[.int .u8 (d.pol.kind : Int), .int .i64 d.pol.T, .int .i64 d.pol.Tau, .int .i64 d.pol.perm], .agg #[.int .i64 (f.word : Int), .int .u64 (f.v : Int), .slice A n c], .int .i64 (f.at_ : Int), .bool f.there, .agg #[.int .i64 (ce.pol : Int), .slice r.K ce.key.length r.kc, .int .i64 ce.tat, .slice r.H ce.held.length r.hc]] w (OutR X d (.on (.mv 33 1 4611686018427387903 (.serial f ce))) w) := by
  have hmf := hmfC
  subst hn
  obtain ⟨W, hW⟩ : ∃ W, ((((((((w.alloc (.cells #[ptrV d.xb] 203)).alloc (.cells #[.int .u8 (d.pol.kind : Int), .int .i64 d.pol.T, .int .i64 d.pol.Tau, .int .i64 d.pol.perm] 80)).alloc (.cells #[.int .i64 (f.word : Int), .int .u64 (f.v : Int), .slice A f.cells.length c] 319)).alloc (.cells #[.int .i64 (f.at_ : Int)] 3)).alloc (.cells #[.bool f.there] 4)).alloc (.cells #[.int .i64 (ce.pol : Int), .slice r.K ce.key.length r.kc, .int .i64 ce.tat, .slice r.H ce.held.length r.hc] 62)).alloc (.cells #[.bool false, .int .i64 0, .bool false, .int .i64 0, .int .i64 0, .int .i64 0, .int .i64 0] 41)).alloc (.cells #[fnV 250 #[ptrV (w.heap.size + 1), ptrV (w.heap.size + 1 + 1 + 1 + 1 + 1), ptrV w.heap.size, ptrV (w.heap.size + 1 + 1), ptrV (w.heap.size + 1 + 1 + 1), ptrV (w.heap.size + 1 + 1 + 1 + 1)]] 207)) = W := ⟨_, rfl⟩
  have xW : Ext w W := by rw [← hW]; exact (((((((((Ext.refl w).alloc _).alloc _).alloc _).alloc _).alloc _).alloc _).alloc _).alloc _)
  have hg6 : ∀ k, w.heap.size ≤ k → k ≠ w.heap.size + 1 + 1 + 1 + 1 + 1 + 1 → ¬ XG X (w.heap.size + 1 + 1 + 1 + 1 + 1 + 1) k := fun k h1 h2 e => e.elim (hX.not h1) h2
  have rr : ∀ (i : Nat) (cs : Array Value), RowX W X (ptrV i) cs → i ≠ w.heap.size + 1 + 1 + 1 + 1 + 1 + 1 → RowX W (XG X (w.heap.size + 1 + 1 + 1 + 1 + 1 + 1)) (ptrV i) cs := fun i cs h hi => by
    obtain ⟨b, t, e1, e2, e3⟩ := h
    refine ⟨b, t, e1, e2, fun e => e.elim e3 (fun e => ?_)⟩
    injection e1 with e1
    injection e1 with e1
    injection e1 with e1
    omega
  have r0 := rr w.heap.size #[ptrV d.xb] (by rw [← hW]; exact ((((((((RowX.new rfl (hX.not (by omega))).past _).past _).past _).past _).past _).past _).past _)) (by omega)
  have r1 := rr (w.heap.size + 1) (polV d.pol) (by rw [← hW]; exact (((((((RowX.new (by simp) (hX.not (by omega))).past _).past _).past _).past _).past _).past _)) (by omega)
  have r2 := rr (w.heap.size + 1 + 1) #[.int .i64 (f.word : Int), .int .u64 (f.v : Int), .slice A f.cells.length c] (by rw [← hW]; exact ((((((RowX.new (by simp) (hX.not (by omega))).past _).past _).past _).past _).past _)) (by omega)
  have r3 := rr (w.heap.size + 1 + 1 + 1) #[.int .i64 (f.at_ : Int)] (by rw [← hW]; exact (((((RowX.new (by simp) (hX.not (by omega))).past _).past _).past _).past _)) (by omega)
  have r4 := rr (w.heap.size + 1 + 1 + 1 + 1) #[.bool f.there] (by rw [← hW]; exact ((((RowX.new (by simp) (hX.not (by omega))).past _).past _).past _)) (by omega)
  have r5 := rr (w.heap.size + 1 + 1 + 1 + 1 + 1) (cellV r ce).toArray (by rw [← hW]; exact (((RowX.new (by simp) (hX.not (by omega))).past _).past _)) (by omega)
  have r7 := rr (w.heap.size + 1 + 1 + 1 + 1 + 1 + 1 + 1) #[fnV 250 #[ptrV (w.heap.size + 1), ptrV (w.heap.size + 1 + 1 + 1 + 1 + 1), ptrV w.heap.size, ptrV (w.heap.size + 1 + 1), ptrV (w.heap.size + 1 + 1 + 1), ptrV (w.heap.size + 1 + 1 + 1 + 1)]] (by rw [← hW]; exact (RowX.new (by simp) (hX.not (by omega)))) (by omega)
  have kp := kpg (X := X) xW (by omega : w.heap.size ≤ w.heap.size + 1 + 1 + 1 + 1 + 1 + 1)
  have K6 := Lib.hid (show W.heap[w.heap.size + 1 + 1 + 1 + 1 + 1 + 1]? = some (.cells #[.bool false, .int .i64 0, .bool false, .int .i64 0, .int .i64 0, .int .i64 0, .int .i64 0] 41 (0, 0)) by rw [← hW]; exact blk_past (blk_newk _ _ (by simp)) _)
  have AQ : AcqAt W (XG X (w.heap.size + 1 + 1 + 1 + 1 + 1 + 1)) d (fnV 250 #[ptrV (w.heap.size + 1), ptrV (w.heap.size + 1 + 1 + 1 + 1 + 1), ptrV w.heap.size, ptrV (w.heap.size + 1 + 1), ptrV (w.heap.size + 1 + 1 + 1), ptrV (w.heap.size + 1 + 1 + 1 + 1)]) f ce :=
    ⟨_, _, _, _, _, _, rfl, r1, ⟨r, r5, hP.kp kp⟩, r0, ⟨A, c, rs, r2, hf.kp kp⟩, r3, r4⟩
  have MV := Lib.hid (cmove_i W (XG X (w.heap.size + 1 + 1 + 1 + 1 + 1 + 1)) d 33 1 4611686018427387903 33 1 4611686018427387903 (fnV 252 #[ptrV w.heap.size]) (fnV 253 #[ptrV w.heap.size, ptrV (w.heap.size + 1 + 1 + 1 + 1 + 1 + 1 + 1)]) (.serial f ce) rfl rfl rfl (hX.xg xW (blk_lt K6.out)) ⟨_, _, _, _, rfl, r0, rfl, r0, r7, AQ⟩)
  have y8 := ext_cell xW h8
  have e0 : W.cell? ⟨w.heap.size, 0, none⟩ = some (ptrV d.xb) := r0.cell 0
  have XW := Lib.hid xW
  obtain ⟨hl, Hhl⟩ : ∃ n, Hid (ce.held.length = n) := ⟨_, rfl⟩
  have HW := Lib.hid hW
  rw [Hhl.out] at hne
  rw [Hhl.out] at HW
  rw [Hhl.out]
  clear hf hP hX rr hg6 r0 r1 r2 r3 r4 r5 r7 kp AQ xW hW
  go_enter Tryz.func193, Tryz.ntmps193
  go_upto_region 4 with fail
  (try rw [HW.out])
  clear HW
  go_wp2_with fail
  refine MV.out.mono ?_
  rintro e w1 ⟨v, rfl, hk, hx⟩
  have ON := Lib.hid (on_out hk)
  have X1 := Lib.hid (XW.out.trans hx)
  have K2 := Lib.hid (blk_ext K6.out hx)
  clear hk hx
  go_wp2_with fail
  refine ON.out.mono ?_
  rintro e w2 ⟨nv, done, r', rfl, ho, hx⟩
  have HO := Lib.hid ho; have HX := Lib.hid hx
  have K3 := Lib.hid (blk_ext K2.out hx)
  have s0 := blk_cell K3.out 0; have z0 := blk_frozen K3.out 0; have s1 := blk_cell K3.out 1; have z1 := blk_frozen K3.out 1; have s2 := blk_cell K3.out 2; have z2 := blk_frozen K3.out 2; have s3 := blk_cell K3.out 3; have z3 := blk_frozen K3.out 3; have s4 := blk_cell K3.out 4; have z4 := blk_frozen K3.out 4; have s5 := blk_cell K3.out 5; have z5 := blk_frozen K3.out 5; have s6 := blk_cell K3.out 6; have z6 := blk_frozen K3.out 6
  clear ho hx
  go_wp2_with fail
  refine bodyPost_ret (results_tmp_row (p := 13) (u := 12) rfl _ _ (w.heap.size + 1 + 1 + 1 + 1 + 1 + 1) _ #[.bool done, .int .i64 (r'.er : Int), .bool r'.granted, .int .i64 r'.left, .int .i64 r'.wait, .int .i64 r'.ser, .int .i64 r'.now] (0, 0) _ rfl (row7 K3.out _ _ _ _ _ _ _) Tryz.underlying41 (by rfl) (by kernel_rfl)) rfl ?_
  exact out_fin HO.out (X1.out.trans HX.out) (by omega) _ _ _ _ _ _ _
end

section
open Go.RowKit

set_option maxRecDepth 100000 in
set_option maxHeartbeats 2000000 in
theorem kbegin_acq (w : World) (X : Nat → Prop) (g : CoK) (who xb word u n c : Nat) (x : PCall) (res : Bool) (ser : Int) (A : Option Addr) (cells : List PCell) (rs : List CRef) (q0 q1 : Nat) (hX : Newer w X) (hx : XAt w X g.gx who x res ser xb) (h0 : RowX w X (ptrV q0) #[ptrV xb]) (hn : cells.length = n) (hc : CellsF w X A cells rs) (hok : CellsOk g.P cells) (hP32 : g.P.length ≤ 32) (hk : KeyOk ⟨x.pol, x.key, 0, []⟩)
    (h1 : RowX w X (ptrV q1) (polV (polAt g.P x.pol))) (hop : x.op = 2) (hser : ser = 0) (hne : ((cellK cells x.pol x.key).held.length : Int) ≠ (polAt g.P x.pol).perm) :
    Calls Tryz.prog 190 #[.int .i64 (word : Int), .int .u64 (u : Int), .slice A n c, ptrV q0, ptrV q1] w (OutR X (cidOf g who xb x) (.on (.mv 33 1 4611686018427387903 (.serial ⟨word, u, cells, atK cells (x.pol :: x.key), hasK cells (x.pol :: x.key)⟩ (cellK cells x.pol x.key)))) w) := by
  obtain ⟨K, kc, x0, x1, x2, x3, x4, x5, x6, x7, x8, hkc, hkr, hkf⟩ := hx.cells
  obtain ⟨W, hW⟩ : ∃ W, ((w.alloc (.cells #[.bool false, .int .i64 0, .bool false, .int .i64 0, .int .i64 0, .int .i64 0, .int .i64 0] 41)).alloc (.cells #[.int .i64 (word : Int), .int .u64 (u : Int), .slice A n c] 319)) = W := ⟨_, rfl⟩
  have xW : Ext w W := by rw [← hW]; exact (((Ext.refl w).alloc _).alloc _)
  have hg : w.heap.size < W.heap.size := by rw [← hW]; simp; omega
  have kpW := kpg (X := X) xW (Nat.le_refl w.heap.size)
  have hXW : Newer W (XG X w.heap.size) := hX.xg xW hg
  have hokK : ∀ e ∈ cells, KeyOk e := fun e he => by
    obtain ⟨a1, a2, a3, _⟩ := hok.2.1 e he
    exact ⟨by omega, a2, a3⟩
  have BF := Lib.hid (fun v (y : Ext W v) (X' : Nat → Prop) (kp : Kp w v X X') => bfind_any v X' A K n c x.key.length kc cells rs x.pol x.key hn (by have := hok.2.2; omega) hok.1 hokK (hc.kp kp) rfl hkc hk (hkr.ext (xW.trans y)) (hkf.kp kp))
  have e0 : W.cell? ⟨q0, 0, none⟩ = some (ptrV xb) := (h0.ext xW).cell 0
  have e1 : W.cell? ⟨xb, 1, none⟩ = some (.int .i64 (x.pol : Int)) := ext_cell xW x1
  have e2 : W.cell? ⟨xb, 2, none⟩ = some (.slice K x.key.length kc) := ext_cell xW x2
  obtain ⟨kl, Hkl⟩ : ∃ l, Hid (x.key.length = l) := ⟨_, rfl⟩
  rw [Hkl.out] at e2 BF
  obtain ⟨at_, Hat⟩ : ∃ l, Hid (atK cells (x.pol :: x.key) = l) := ⟨_, rfl⟩
  obtain ⟨has, Hhas⟩ : ∃ l, Hid (hasK cells (x.pol :: x.key) = l) := ⟨_, rfl⟩
  obtain ⟨ce, Hce⟩ : ∃ l, Hid (cellK cells x.pol x.key = l) := ⟨_, rfl⟩
  rw [Hat.out, Hhas.out, Hce.out] at BF
  rw [Hat.out, Hhas.out, Hce.out]
  rw [Hce.out] at hne
  have HW := Lib.hid hW
  have KRES := Lib.hid (show W.heap[w.heap.size]? = some (.cells #[.bool false, .int .i64 0, .bool false, .int .i64 0, .int .i64 0, .int .i64 0, .int .i64 0] 41 (0, 0)) by rw [← hW]; exact blk_past (blk_new w _) _)
  have KFND := Lib.hid (show W.heap[w.heap.size + 1]? = some (.cells #[.int .i64 (word : Int), .int .u64 (u : Int), .slice A n c] 319 (0, 0)) by rw [← hW]; exact blk_newk _ _ (by simp))
  have HX := Lib.hid hx; have H1 := Lib.hid h1; have H0 := Lib.hid h0; have HC := Lib.hid hc; have HN := Lib.hid hn; have HNE := Lib.hid hne; have HXX := Lib.hid hX
  subst hser
  have HOP := Lib.hid hop
  clear hne h1 hop
  have qe0 : q0 ≠ W.heap.size := Nat.ne_of_lt (World.block_lt_of_cell? W _ e0)
  have qe1 : xb ≠ W.heap.size := Nat.ne_of_lt (World.block_lt_of_cell? W _ e1)
  have qe2 := qe1
  have HKP := Lib.hid kpW; have HXW := Lib.hid hXW; have XW := Lib.hid xW
  clear kpW hXW xW
  clear hX hx h0 hc hok hk x0 x1 x2 x3 x4 x5 x6 x7 x8 hkc hkr hkf hW hokK hn
  have KB0 := Lib.hid (show (W.alloc (.cells #[.int .i64 0, .slice none 0 0, .int .i64 0, .slice none 0 0] 62)).drew.heap[W.heap.size]? = some (.cells #[.int .i64 0, .slice none 0 0, .int .i64 0, .slice none 0 0] 62 (0, 0)) from blk_new W _)
  have XB0 := Lib.hid (show Ext W (W.alloc (.cells #[.int .i64 0, .slice none 0 0, .int .i64 0, .slice none 0 0] 62)).drew from ((Ext.refl W).alloc _).drew)
  have KP0 := Lib.hid (HKP.out.trans (kpg (X := XG X w.heap.size) XB0.out (Nat.le_refl W.heap.size)))
  go_enter Tryz.func190, Tryz.ntmps190
  go_upto_region 2 with fail
  (try rw [HW.out])
  go_cut [11, 12, 13] (fun v11 v12 v13 wd => FMid W (XG X w.heap.size) at_ has ce v11 v12 v13 wd)
  case first =>
    go_region_held3 (fun w' => w'.cell? ⟨q0, 0, none⟩ = some (ptrV xb) ∧ w'.cell? ⟨xb, 1, none⟩ = some (.int .i64 (x.pol : Int)) ∧ w'.cell? ⟨xb, 2, none⟩ = some (.slice K kl kc))
      (((try go_split_ands); exact ⟨(by first | (with_reducible exact drew_cell e0) | (with_reducible exact e0) | (with_reducible exact te0) | (with_reducible exact drew_cell te0) | (with_reducible exact drew_cell (cell_o4 te0 qe0)) | (with_reducible exact cell_o4 te0 qe0) | (with_reducible assumption) | (with_reducible exact cell_past te0 _) | (with_reducible exact drew_cell (cell_past e0 _))), (by first | (with_reducible exact drew_cell e1) | (with_reducible exact e1) | (with_reducible exact te1) | (with_reducible exact drew_cell te1) | (with_reducible exact drew_cell (cell_o4 te1 qe1)) | (with_reducible exact cell_o4 te1 qe1) | (with_reducible assumption) | (with_reducible exact cell_past te1 _) | (with_reducible exact drew_cell (cell_past e1 _))), (by first | (with_reducible exact drew_cell e2) | (with_reducible exact e2) | (with_reducible exact te2) | (with_reducible exact drew_cell te2) | (with_reducible exact drew_cell (cell_o4 te2 qe2)) | (with_reducible exact cell_o4 te2 qe2) | (with_reducible assumption) | (with_reducible exact cell_past te2 _) | (with_reducible exact drew_cell (cell_past e2 _)))⟩))
      (first
        | (go_at_call 191; (with_reducible refine (BF.out W.drew (Ext.refl W).drew (XG X w.heap.size) (HKP.out.trans (Kp.ext _ (Ext.refl W).drew))).mono ?_); rintro e w2 ⟨r, rfl, hp, hx⟩; have hx' := (Ext.refl W).drew.trans hx; have HL := Lib.hid (fmid_last (at_ := at_) (has := has) (t := 62) hp hx'); have te0 := ext_cell (hx') e0; have te1 := ext_cell (hx') e1; have te2 := ext_cell (hx') e2; clear hp hx hx')
        | (go_at_call 191; (with_reducible refine (BF.out _ XB0.out (XG (XG X w.heap.size) W.heap.size) KP0.out).mono ?_); rintro e w2 ⟨r, rfl, hp, hx⟩; have hx' := XB0.out.trans hx; have kb := blk_ext KB0.out hx; have HL := Lib.hid (fmid_two (at_ := at_) (has := has) hp hx' kb); have c0 : w2.cell? ⟨W.heap.size, 0, none⟩ = some (.int .i64 0) := blk_cell kb 0; have c1 : w2.cell? ⟨W.heap.size, 1, none⟩ = some (.slice none 0 0) := blk_cell kb 1; have c2 : w2.cell? ⟨W.heap.size, 2, none⟩ = some (.int .i64 0) := blk_cell kb 2; have c3 : w2.cell? ⟨W.heap.size, 3, none⟩ = some (.slice none 0 0) := blk_cell kb 3; have y0 := blk_frozen kb 0; have y1 := blk_frozen kb 1; have y2 := blk_frozen kb 2; have y3 := blk_frozen kb 3; have te0 := ext_cell (hx') e0; have te1 := ext_cell (hx') e1; have te2 := ext_cell (hx') e2; clear hp hx hx' kb))
    all_goals
      go_wp2_with fail
      go_meet
      exact HL.out
  case rest =>
    obtain ⟨b, t, r, rfl, rfl, rfl, kb, hbW, hp, hx⟩ := hcut
    obtain ⟨K', kc', x0, x1, x2, x3, x4, x5, x6, x7, x8, -, -, -⟩ := (HX.out.ext (XW.out.trans hx)).cells
    rw [HOP.out] at x0
    have KR2 := Lib.hid (blk_ext KRES.out hx)
    have kf := blk_ext KFND.out hx
    have f0 : wc.cell? ⟨w.heap.size + 1, 0, none⟩ = some (.int .i64 (word : Int)) := blk_cell kf 0
    have f1 : wc.cell? ⟨w.heap.size + 1, 1, none⟩ = some (.int .u64 (u : Int)) := blk_cell kf 1
    have f2 : wc.cell? ⟨w.heap.size + 1, 2, none⟩ = some (.slice A n c) := blk_cell kf 2
    have g0 : wc.cell? ⟨q0, 0, none⟩ = some (ptrV xb) := (H0.out.ext (XW.out.trans hx)).cell 0
    have p0 : wc.cell? ⟨q1, 0, none⟩ = some (.int .u8 ((polAt g.P x.pol).kind : Int)) := (H1.out.ext (XW.out.trans hx)).cell 0
    have p1 : wc.cell? ⟨q1, 1, none⟩ = some (.int .i64 (polAt g.P x.pol).T) := (H1.out.ext (XW.out.trans hx)).cell 1
    have p2 : wc.cell? ⟨q1, 2, none⟩ = some (.int .i64 (polAt g.P x.pol).Tau) := (H1.out.ext (XW.out.trans hx)).cell 2
    have p3 : wc.cell? ⟨q1, 3, none⟩ = some (.int .i64 (polAt g.P x.pol).perm) := (H1.out.ext (XW.out.trans hx)).cell 3
    have c0 : wc.cell? ⟨b, 0, none⟩ = some (.int .i64 (ce.pol : Int)) := blk_cell kb 0
    have c1 : wc.cell? ⟨b, 1, none⟩ = some (.slice r.K ce.key.length r.kc) := blk_cell kb 1
    have c2 : wc.cell? ⟨b, 2, none⟩ = some (.int .i64 ce.tat) := blk_cell kb 2
    have c3 : wc.cell? ⟨b, 3, none⟩ = some (.slice r.H ce.held.length r.hc) := blk_cell kb 3
    have AC := Lib.hid (cacquire_first wc (XG X w.heap.size) (cidOf g who xb x) ⟨word, u, cells, at_, has⟩ n c A rs ce r (HXW.out.ext hx) HN.out (HC.out.kp (HKP.out.trans (Kp.ext _ hx))) hp HNE.out x8)
    have XX := Lib.hid (XW.out.trans hx)
    clear kb hbW hp hx x1 x2 x3 x4 x5 x6 x7 x8 kf e0 e1 e2 qe0 qe1 qe2 hg
    go_wp2_with fail
    refine AC.out.mono ?_
    rintro e w2 ⟨nv, done, r', rfl, ho, hx⟩
    have HO := Lib.hid ho; have HXY := Lib.hid (XX.out.trans hx)
    have K3 := Lib.hid (blk_ext KR2.out hx)
    have s0 := blk_cell K3.out 0; have z0 := blk_frozen K3.out 0; have s1 := blk_cell K3.out 1; have z1 := blk_frozen K3.out 1; have s2 := blk_cell K3.out 2; have z2 := blk_frozen K3.out 2; have s3 := blk_cell K3.out 3; have z3 := blk_frozen K3.out 3; have s4 := blk_cell K3.out 4; have z4 := blk_frozen K3.out 4; have s5 := blk_cell K3.out 5; have z5 := blk_frozen K3.out 5; have s6 := blk_cell K3.out 6; have z6 := blk_frozen K3.out 6
    clear ho hx
    go_wp2_with fail
    refine bodyPost_ret (results_tmp_row (p := 9) (u := 8) rfl _ _ (w.heap.size) _ #[.bool done, .int .i64 (r'.er : Int), .bool r'.granted, .int .i64 r'.left, .int .i64 r'.wait, .int .i64 r'.ser, .int .i64 r'.now] (0, 0) _ rfl (row7 K3.out _ _ _ _ _ _ _) Tryz.underlying41 (by rfl) (by kernel_rfl)) rfl ?_
    exact out_fin HO.out HXY.out (Nat.le_refl _) _ _ _ _ _ _ _
end

section
open Go.RowKit

theorem ext6 {w w2 : World} {g : Nat} (h : Ext w w2) (hg : w.heap.size ≤ g) (b0 b1 b2 b3 b4 b5 : Value) : Ext w ((((((w2.setCell ⟨g, 0, none⟩ b0).setCell ⟨g, 1, none⟩ b1).setCell ⟨g, 2, none⟩ b2).setCell ⟨g, 3, none⟩ b3).setCell ⟨g, 4, none⟩ b4).setCell ⟨g, 5, none⟩ b5) := ext_grown h (grown6 w2 g b0 b1 b2 b3 b4 b5) hg
theorem gb_six {w a : World} {S : Nat → Prop} {g : Nat} (h : GB w a S) (hg : S g ∨ w.heap.size ≤ g) (b0 b1 b2 b3 b4 b5 : Value) : GB w ((((((a.setCell ⟨g, 0, none⟩ b0).setCell ⟨g, 1, none⟩ b1).setCell ⟨g, 2, none⟩ b2).setCell ⟨g, 3, none⟩ b3).setCell ⟨g, 4, none⟩ b4).setCell ⟨g, 5, none⟩ b5) S := h.grown (grown6 a g b0 b1 b2 b3 b4 b5) (fun q e => by injection e with e; subst e; exact hg)
theorem gb_four {w a : World} {S : Nat → Prop} {g : Nat} (h : GB w a S) (hg : S g ∨ w.heap.size ≤ g) (b0 b1 b2 b3 : Value) : GB w ((((a.setCell ⟨g, 0, none⟩ b0).setCell ⟨g, 1, none⟩ b1).setCell ⟨g, 2, none⟩ b2).setCell ⟨g, 3, none⟩ b3) S := h.grown (grown4 a g b0 b1 b2 b3) (fun q e => by injection e with e; subst e; exact hg)
theorem blk_o6 {w : World} {g k : Nat} {o : Obj} {b0 b1 b2 b3 b4 b5 : Value} (h : w.heap[k]? = some o) (hne : k ≠ g) : ((((((w.setCell ⟨g, 0, none⟩ b0).setCell ⟨g, 1, none⟩ b1).setCell ⟨g, 2, none⟩ b2).setCell ⟨g, 3, none⟩ b3).setCell ⟨g, 4, none⟩ b4).setCell ⟨g, 5, none⟩ b5).heap[k]? = some o := blk_grown h (grown6 w g b0 b1 b2 b3 b4 b5) hne
theorem blk_o4 {w : World} {g k : Nat} {o : Obj} {b0 b1 b2 b3 : Value} (h : w.heap[k]? = some o) (hne : k ≠ g) : ((((w.setCell ⟨g, 0, none⟩ b0).setCell ⟨g, 1, none⟩ b1).setCell ⟨g, 2, none⟩ b2).setCell ⟨g, 3, none⟩ b3).heap[k]? = some o := blk_grown h (grown4 w g b0 b1 b2 b3) hne
/-- a reply and a cell, each in a new box -/
def TwoMid (W : World) (X : Nat → Prop) (rep : KRep) (ce : PCell) (v7 v8 : Value) (wd : World) : Prop :=
  ∃ b7 b8 r, v7 = .pointer (some ⟨b7, 0, none⟩) ∧ v8 = .pointer (some ⟨b8, 0, none⟩) ∧ wd.heap[b7]? = some (.cells #[.int .i64 (rep.er : Int), .bool rep.granted, .int .i64 rep.left, .int .i64 rep.wait, .int .i64 rep.ser, .int .i64 rep.now] 39 (0, 0)) ∧ wd.heap[b8]? = some (.cells #[.int .i64 (ce.pol : Int), .slice r.K ce.key.length r.kc, .int .i64 ce.tat, .slice r.H ce.held.length r.hc] 62 (0, 0)) ∧ W.heap.size ≤ b7 ∧ W.heap.size ≤ b8 ∧ PartsF wd X r ce ∧ Ext W wd
abbrev zRep : Obj := .cells #[.int .i64 0, .bool false, .int .i64 0, .int .i64 0, .int .i64 0, .int .i64 0] 39 (0, 0)
abbrev zCel : Obj := .cells #[.int .i64 0, .slice none 0 0, .int .i64 0, .slice none 0 0] 62 (0, 0)
theorem parts_keep {w2 : World} {X X' S : Nat → Prop} {r : CRef} {ce : PCell} (hp : PartsF w2 X' r ce) (h1 : ∀ i, S i → X' i) (h2 : ∀ i, X i → X' i) : ∀ wd, GB w2 wd S → PartsF wd X r ce := fun _ gb => hp.kp (Kp.of gb (fun i _ e => h1 i e) (fun i _ e => h2 i e))
theorem kpg2 {W u : World} {X : Nat → Prop} (x : Ext W u) : Kp W u X (XG (XG X W.heap.size) (W.heap.size + 1)) := Kp.of (S := fun _ => False) (GB.of_ext _ x) (fun _ _ e => e.elim) (fun i hi e => e.elim (fun e => e.elim id (fun e => by omega)) (fun e => by omega))
theorem newer_two {W u : World} {X : Nat → Prop} (h : Newer W X) (x : Ext W u) (hu : W.heap.size + 1 < u.heap.size) : Newer u (XG (XG X W.heap.size) (W.heap.size + 1)) := fun i hi => hi.elim (fun e => e.elim (fun e => Nat.lt_of_lt_of_le (h i e) x.size) (fun e => by omega)) (fun e => by omega)
set_option maxRecDepth 100000 in
set_option maxHeartbeats 4000000 in
theorem cacq_put (W : World) (X : Nat → Prop) (d : CId) (q0 q1 q2 q3 q4 q5 : Nat) (f : Found) (ce : PCell) (ser : Int) (hX : Newer W X) (h : AcqAt W X d (fnV 250 #[ptrV q0, ptrV q1, ptrV q2, ptrV q3, ptrV q4, ptrV q5]) f ce) (h8 : W.cell? ⟨d.xb, 8, none⟩ = some (.int .i64 ser))
    (hs : Ser ser) (hF : Form d.pol.perm ce.held) (hm : ser ∉ ce.held) (hlt : (ce.held.length : Int) < d.pol.perm)
    (res : Bool) (gx room : Nat) (h4 : W.cell? ⟨d.xb, 4, none⟩ = some (ptrV gx)) (h7 : W.cell? ⟨d.xb, 7, none⟩ = some (.bool res)) (hr : W.cell? ⟨gx, 1, none⟩ = some (.int .u64 (room : Int))) :
    Calls Tryz.prog 250 #[ptrV q0, ptrV q1, ptrV q2, ptrV q3, ptrV q4, ptrV q5] W (ClR (fun w' v => KontAt w' X d v (putK room res f (acqK d.pol ce ser).2 (acqK d.pol ce ser).1)) W) := by
  obtain ⟨_, _, _, _, _, _, hq, k0, ⟨r, k1, hp⟩, k2, ⟨Af, cf, rsf, kf, hcf⟩, k4, k5⟩ := h
  injection hq with _ _ hq
  have e := congrArg Array.toList hq
  simp only [List.cons.injEq, and_true] at e
  obtain ⟨rfl, rfl, rfl, rfl, rfl, rfl⟩ := e
  obtain ⟨rep, Hrep⟩ : ∃ x, Hid ((acqK d.pol ce ser).1 = x) := ⟨_, rfl⟩
  obtain ⟨ce', Hce⟩ : ∃ x, Hid ((acqK d.pol ce ser).2 = x) := ⟨_, rfl⟩
  have AQ := Lib.hid (fun u (x : Ext W u) (X' : Nat → Prop) (kp : Kp W u X X') (hn : Newer u X') => bacquire_ok u X' d.pol ce r ser hn (hp.kp kp) hs hF hm hlt)
  rw [Hrep.out, Hce.out] at AQ ⊢
  have H4' := Lib.hid h4; have H7' := Lib.hid h7; have HR' := Lib.hid hr
  have XA := Lib.hid (show Ext W (W.alloc zRep).drew from ((Ext.refl W).alloc _).drew)
  have XB := Lib.hid (show Ext W (W.alloc zCel).drew from ((Ext.refl W).alloc _).drew)
  have XAB := Lib.hid (show Ext W ((W.alloc zRep).alloc zCel).drew from (((Ext.refl W).alloc _).alloc _).drew)
  have XBA := Lib.hid (show Ext W ((W.alloc zCel).alloc zRep).drew from (((Ext.refl W).alloc _).alloc _).drew)
  have e0 : W.cell? ⟨q0, 0, none⟩ = some (.int .u8 (d.pol.kind : Int)) := k0.cell 0
  have e1 : W.cell? ⟨q0, 1, none⟩ = some (.int .i64 d.pol.T) := k0.cell 1
  have e2 : W.cell? ⟨q0, 2, none⟩ = some (.int .i64 d.pol.Tau) := k0.cell 2
  have e3 : W.cell? ⟨q0, 3, none⟩ = some (.int .i64 d.pol.perm) := k0.cell 3
  have f0 : W.cell? ⟨q1, 0, none⟩ = some (.int .i64 (ce.pol : Int)) := k1.cell 0
  have f1 : W.cell? ⟨q1, 1, none⟩ = some (.slice r.K ce.key.length r.kc) := k1.cell 1
  have f2 : W.cell? ⟨q1, 2, none⟩ = some (.int .i64 ce.tat) := k1.cell 2
  have f3 : W.cell? ⟨q1, 3, none⟩ = some (.slice r.H ce.held.length r.hc) := k1.cell 3
  have g0 : W.cell? ⟨q2, 0, none⟩ = some (ptrV d.xb) := k2.cell 0
  have H0 := Lib.hid k0; have H2 := Lib.hid k2; have HKF := Lib.hid kf; have H4 := Lib.hid k4; have H5 := Lib.hid k5; have HX := Lib.hid hX
  have HCF := Lib.hid hcf
  clear h4 h7 hr hcf
  clear k0 k1 k2 kf k4 k5 hp hX hs hF hm hlt hq
  go_enter Tryz.func250, Tryz.ntmps250
  go_upto_region 1 with fail
  have HS := Lib.hid (fun (w' : World) (hE : Ext W w') => (⟨ext_cell hE e0, ext_cell hE e1, ext_cell hE e2, ext_cell hE e3, ext_cell hE f0, ext_cell hE f1, ext_cell hE f2, ext_cell hE f3, ext_cell hE g0, ext_cell hE h8⟩ : w'.cell? ⟨q0, 0, none⟩ = some (.int .u8 (d.pol.kind : Int)) ∧ w'.cell? ⟨q0, 1, none⟩ = some (.int .i64 d.pol.T) ∧ w'.cell? ⟨q0, 2, none⟩ = some (.int .i64 d.pol.Tau) ∧ w'.cell? ⟨q0, 3, none⟩ = some (.int .i64 d.pol.perm) ∧ w'.cell? ⟨q1, 0, none⟩ = some (.int .i64 (ce.pol : Int)) ∧ w'.cell? ⟨q1, 1, none⟩ = some (.slice r.K ce.key.length r.kc) ∧ w'.cell? ⟨q1, 2, none⟩ = some (.int .i64 ce.tat) ∧ w'.cell? ⟨q1, 3, none⟩ = some (.slice r.H ce.held.length r.hc) ∧ w'.cell? ⟨q2, 0, none⟩ = some (ptrV d.xb) ∧ w'.cell? ⟨d.xb, 8, none⟩ = some (.int .i64 ser)))
  go_cut [7, 8] (fun v7 v8 wd => TwoMid W X rep ce' v7 v8 wd)
  case first =>
    go_region_held3 (fun w' => w'.cell? ⟨q0, 0, none⟩ = some (.int .u8 (d.pol.kind : Int)) ∧ w'.cell? ⟨q0, 1, none⟩ = some (.int .i64 d.pol.T) ∧ w'.cell? ⟨q0, 2, none⟩ = some (.int .i64 d.pol.Tau) ∧ w'.cell? ⟨q0, 3, none⟩ = some (.int .i64 d.pol.perm) ∧ w'.cell? ⟨q1, 0, none⟩ = some (.int .i64 (ce.pol : Int)) ∧ w'.cell? ⟨q1, 1, none⟩ = some (.slice r.K ce.key.length r.kc) ∧ w'.cell? ⟨q1, 2, none⟩ = some (.int .i64 ce.tat) ∧ w'.cell? ⟨q1, 3, none⟩ = some (.slice r.H ce.held.length r.hc) ∧ w'.cell? ⟨q2, 0, none⟩ = some (ptrV d.xb) ∧ w'.cell? ⟨d.xb, 8, none⟩ = some (.int .i64 ser))
      (((try go_split_ands); (with_reducible refine HS.out _ ?_); repeat (first | (with_reducible exact Ext.refl _) | (with_reducible exact HX2.out) | (with_reducible refine Ext.drew ?_) | (with_reducible refine Ext.alloc ?_ _) | (with_reducible refine ext6 ?_ (by omega) _ _ _ _ _ _) | (with_reducible refine ext4 ?_ (by omega) _ _ _ _))))
      ((go_at_call 251; first
        | ((with_reducible refine (AQ.out W.drew (Ext.refl W).drew X (Kp.ext _ (Ext.refl W).drew) (HX.out.ext (Ext.refl W).drew)).mono ?_); rintro e w2 ⟨r', rfl, hp, hx⟩; have HX2 := Lib.hid ((Ext.refl W).drew.trans hx); have HPK := Lib.hid (parts_keep (X := X) (S := fun _ => False) hp (fun _ e => e.elim) (fun _ e => e));   have hz : W.heap.size ≤ w2.heap.size := HX2.out.size; have v1c : ((w2.alloc (.cells #[.int .i64 0, .bool false, .int .i64 0, .int .i64 0, .int .i64 0, .int .i64 0] 39 (0, 0))).alloc zCel).cell? ⟨w2.heap.size, 0, none⟩ = some (.int .i64 0) := blk_cell (blk_past (blk_new w2 (.cells #[.int .i64 0, .bool false, .int .i64 0, .int .i64 0, .int .i64 0, .int .i64 0] 39 (0, 0))) zCel) 0; have v1z : ((w2.alloc (.cells #[.int .i64 0, .bool false, .int .i64 0, .int .i64 0, .int .i64 0, .int .i64 0] 39 (0, 0))).alloc zCel).frozen? ⟨w2.heap.size, 0, none⟩ = false := blk_frozen (blk_past (blk_new w2 (.cells #[.int .i64 0, .bool false, .int .i64 0, .int .i64 0, .int .i64 0, .int .i64 0] 39 (0, 0))) zCel) 0; have v2c : ((w2.alloc (.cells #[.int .i64 (rep.er : Int), .bool false, .int .i64 0, .int .i64 0, .int .i64 0, .int .i64 0] 39 (0, 0))).alloc zCel).cell? ⟨w2.heap.size, 1, none⟩ = some (.bool false) := blk_cell (blk_past (blk_new w2 (.cells #[.int .i64 (rep.er : Int), .bool false, .int .i64 0, .int .i64 0, .int .i64 0, .int .i64 0] 39 (0, 0))) zCel) 1; have v2z : ((w2.alloc (.cells #[.int .i64 (rep.er : Int), .bool false, .int .i64 0, .int .i64 0, .int .i64 0, .int .i64 0] 39 (0, 0))).alloc zCel).frozen? ⟨w2.heap.size, 1, none⟩ = false := blk_frozen (blk_past (blk_new w2 (.cells #[.int .i64 (rep.er : Int), .bool false, .int .i64 0, .int .i64 0, .int .i64 0, .int .i64 0] 39 (0, 0))) zCel) 1; have v3c : ((w2.alloc (.cells #[.int .i64 (rep.er : Int), .bool rep.granted, .int .i64 0, .int .i64 0, .int .i64 0, .int .i64 0] 39 (0, 0))).alloc zCel).cell? ⟨w2.heap.size, 2, none⟩ = some (.int .i64 0) := blk_cell (blk_past (blk_new w2 (.cells #[.int .i64 (rep.er : Int), .bool rep.granted, .int .i64 0, .int .i64 0, .int .i64 0, .int .i64 0] 39 (0, 0))) zCel) 2; have v3z : ((w2.alloc (.cells #[.int .i64 (rep.er : Int), .bool rep.granted, .int .i64 0, .int .i64 0, .int .i64 0, .int .i64 0] 39 (0, 0))).alloc zCel).frozen? ⟨w2.heap.size, 2, none⟩ = false := blk_frozen (blk_past (blk_new w2 (.cells #[.int .i64 (rep.er : Int), .bool rep.granted, .int .i64 0, .int .i64 0, .int .i64 0, .int .i64 0] 39 (0, 0))) zCel) 2; have v4c : ((w2.alloc (.cells #[.int .i64 (rep.er : Int), .bool rep.granted, .int .i64 rep.left, .int .i64 0, .int .i64 0, .int .i64 0] 39 (0, 0))).alloc zCel).cell? ⟨w2.heap.size, 3, none⟩ = some (.int .i64 0) := blk_cell (blk_past (blk_new w2 (.cells #[.int .i64 (rep.er : Int), .bool rep.granted, .int .i64 rep.left, .int .i64 0, .int .i64 0, .int .i64 0] 39 (0, 0))) zCel) 3; have v4z : ((w2.alloc (.cells #[.int .i64 (rep.er : Int), .bool rep.granted, .int .i64 rep.left, .int .i64 0, .int .i64 0, .int .i64 0] 39 (0, 0))).alloc zCel).frozen? ⟨w2.heap.size, 3, none⟩ = false := blk_frozen (blk_past (blk_new w2 (.cells #[.int .i64 (rep.er : Int), .bool rep.granted, .int .i64 rep.left, .int .i64 0, .int .i64 0, .int .i64 0] 39 (0, 0))) zCel) 3; have v5c : ((w2.alloc (.cells #[.int .i64 (rep.er : Int), .bool rep.granted, .int .i64 rep.left, .int .i64 rep.wait, .int .i64 0, .int .i64 0] 39 (0, 0))).alloc zCel).cell? ⟨w2.heap.size, 4, none⟩ = some (.int .i64 0) := blk_cell (blk_past (blk_new w2 (.cells #[.int .i64 (rep.er : Int), .bool rep.granted, .int .i64 rep.left, .int .i64 rep.wait, .int .i64 0, .int .i64 0] 39 (0, 0))) zCel) 4; have v5z : ((w2.alloc (.cells #[.int .i64 (rep.er : Int), .bool rep.granted, .int .i64 rep.left, .int .i64 rep.wait, .int .i64 0, .int .i64 0] 39 (0, 0))).alloc zCel).frozen? ⟨w2.heap.size, 4, none⟩ = false := blk_frozen (blk_past (blk_new w2 (.cells #[.int .i64 (rep.er : Int), .bool rep.granted, .int .i64 rep.left, .int .i64 rep.wait, .int .i64 0, .int .i64 0] 39 (0, 0))) zCel) 4; have v6c : ((w2.alloc (.cells #[.int .i64 (rep.er : Int), .bool rep.granted, .int .i64 rep.left, .int .i64 rep.wait, .int .i64 rep.ser, .int .i64 0] 39 (0, 0))).alloc zCel).cell? ⟨w2.heap.size, 5, none⟩ = some (.int .i64 0) := blk_cell (blk_past (blk_new w2 (.cells #[.int .i64 (rep.er : Int), .bool rep.granted, .int .i64 rep.left, .int .i64 rep.wait, .int .i64 rep.ser, .int .i64 0] 39 (0, 0))) zCel) 5; have v6z : ((w2.alloc (.cells #[.int .i64 (rep.er : Int), .bool rep.granted, .int .i64 rep.left, .int .i64 rep.wait, .int .i64 rep.ser, .int .i64 0] 39 (0, 0))).alloc zCel).frozen? ⟨w2.heap.size, 5, none⟩ = false := blk_frozen (blk_past (blk_new w2 (.cells #[.int .i64 (rep.er : Int), .bool rep.granted, .int .i64 rep.left, .int .i64 rep.wait, .int .i64 rep.ser, .int .i64 0] 39 (0, 0))) zCel) 5; have v7c : ((w2.alloc (.cells #[.int .i64 0, .slice none 0 0, .int .i64 0, .slice none 0 0] 62 (0, 0))).alloc (.cells #[.int .i64 (rep.er : Int), .bool rep.granted, .int .i64 rep.left, .int .i64 rep.wait, .int .i64 rep.ser, .int .i64 rep.now] 39 (0, 0))).cell? ⟨w2.heap.size, 0, none⟩ = some (.int .i64 0) := blk_cell (blk_past (blk_new w2 (.cells #[.int .i64 0, .slice none 0 0, .int .i64 0, .slice none 0 0] 62 (0, 0))) (.cells #[.int .i64 (rep.er : Int), .bool rep.granted, .int .i64 rep.left, .int .i64 rep.wait, .int .i64 rep.ser, .int .i64 rep.now] 39 (0, 0))) 0; have v7z : ((w2.alloc (.cells #[.int .i64 0, .slice none 0 0, .int .i64 0, .slice none 0 0] 62 (0, 0))).alloc (.cells #[.int .i64 (rep.er : Int), .bool rep.granted, .int .i64 rep.left, .int .i64 rep.wait, .int .i64 rep.ser, .int .i64 rep.now] 39 (0, 0))).frozen? ⟨w2.heap.size, 0, none⟩ = false := blk_frozen (blk_past (blk_new w2 (.cells #[.int .i64 0, .slice none 0 0, .int .i64 0, .slice none 0 0] 62 (0, 0))) (.cells #[.int .i64 (rep.er : Int), .bool rep.granted, .int .i64 rep.left, .int .i64 rep.wait, .int .i64 rep.ser, .int .i64 rep.now] 39 (0, 0))) 0; have v8c : ((w2.alloc (.cells #[.int .i64 (ce'.pol : Int), .slice none 0 0, .int .i64 0, .slice none 0 0] 62 (0, 0))).alloc (.cells #[.int .i64 (rep.er : Int), .bool rep.granted, .int .i64 rep.left, .int .i64 rep.wait, .int .i64 rep.ser, .int .i64 rep.now] 39 (0, 0))).cell? ⟨w2.heap.size, 1, none⟩ = some (.slice none 0 0) := blk_cell (blk_past (blk_new w2 (.cells #[.int .i64 (ce'.pol : Int), .slice none 0 0, .int .i64 0, .slice none 0 0] 62 (0, 0))) (.cells #[.int .i64 (rep.er : Int), .bool rep.granted, .int .i64 rep.left, .int .i64 rep.wait, .int .i64 rep.ser, .int .i64 rep.now] 39 (0, 0))) 1; have v8z : ((w2.alloc (.cells #[.int .i64 (ce'.pol : Int), .slice none 0 0, .int .i64 0, .slice none 0 0] 62 (0, 0))).alloc (.cells #[.int .i64 (rep.er : Int), .bool rep.granted, .int .i64 rep.left, .int .i64 rep.wait, .int .i64 rep.ser, .int .i64 rep.now] 39 (0, 0))).frozen? ⟨w2.heap.size, 1, none⟩ = false := blk_frozen (blk_past (blk_new w2 (.cells #[.int .i64 (ce'.pol : Int), .slice none 0 0, .int .i64 0, .slice none 0 0] 62 (0, 0))) (.cells #[.int .i64 (rep.er : Int), .bool rep.granted, .int .i64 rep.left, .int .i64 rep.wait, .int .i64 rep.ser, .int .i64 rep.now] 39 (0, 0))) 1; have v9c : ((w2.alloc (.cells #[.int .i64 (ce'.pol : Int), .slice r'.K ce'.key.length r'.kc, .int .i64 0, .slice none 0 0] 62 (0, 0))).alloc (.cells #[.int .i64 (rep.er : Int), .bool rep.granted, .int .i64 rep.left, .int .i64 rep.wait, .int .i64 rep.ser, .int .i64 rep.now] 39 (0, 0))).cell? ⟨w2.heap.size, 2, none⟩ = some (.int .i64 0) := blk_cell (blk_past (blk_new w2 (.cells #[.int .i64 (ce'.pol : Int), .slice r'.K ce'.key.length r'.kc, .int .i64 0, .slice none 0 0] 62 (0, 0))) (.cells #[.int .i64 (rep.er : Int), .bool rep.granted, .int .i64 rep.left, .int .i64 rep.wait, .int .i64 rep.ser, .int .i64 rep.now] 39 (0, 0))) 2; have v9z : ((w2.alloc (.cells #[.int .i64 (ce'.pol : Int), .slice r'.K ce'.key.length r'.kc, .int .i64 0, .slice none 0 0] 62 (0, 0))).alloc (.cells #[.int .i64 (rep.er : Int), .bool rep.granted, .int .i64 rep.left, .int .i64 rep.wait, .int .i64 rep.ser, .int .i64 rep.now] 39 (0, 0))).frozen? ⟨w2.heap.size, 2, none⟩ = false := blk_frozen (blk_past (blk_new w2 (.cells #[.int .i64 (ce'.pol : Int), .slice r'.K ce'.key.length r'.kc, .int .i64 0, .slice none 0 0] 62 (0, 0))) (.cells #[.int .i64 (rep.er : Int), .bool rep.granted, .int .i64 rep.left, .int .i64 rep.wait, .int .i64 rep.ser, .int .i64 rep.now] 39 (0, 0))) 2; have v10c : ((w2.alloc (.cells #[.int .i64 (ce'.pol : Int), .slice r'.K ce'.key.length r'.kc, .int .i64 ce'.tat, .slice none 0 0] 62 (0, 0))).alloc (.cells #[.int .i64 (rep.er : Int), .bool rep.granted, .int .i64 rep.left, .int .i64 rep.wait, .int .i64 rep.ser, .int .i64 rep.now] 39 (0, 0))).cell? ⟨w2.heap.size, 3, none⟩ = some (.slice none 0 0) := blk_cell (blk_past (blk_new w2 (.cells #[.int .i64 (ce'.pol : Int), .slice r'.K ce'.key.length r'.kc, .int .i64 ce'.tat, .slice none 0 0] 62 (0, 0))) (.cells #[.int .i64 (rep.er : Int), .bool rep.granted, .int .i64 rep.left, .int .i64 rep.wait, .int .i64 rep.ser, .int .i64 rep.now] 39 (0, 0))) 3; have v10z : ((w2.alloc (.cells #[.int .i64 (ce'.pol : Int), .slice r'.K ce'.key.length r'.kc, .int .i64 ce'.tat, .slice none 0 0] 62 (0, 0))).alloc (.cells #[.int .i64 (rep.er : Int), .bool rep.granted, .int .i64 rep.left, .int .i64 rep.wait, .int .i64 rep.ser, .int .i64 rep.now] 39 (0, 0))).frozen? ⟨w2.heap.size, 3, none⟩ = false := blk_frozen (blk_past (blk_new w2 (.cells #[.int .i64 (ce'.pol : Int), .slice r'.K ce'.key.length r'.kc, .int .i64 ce'.tat, .slice none 0 0] 62 (0, 0))) (.cells #[.int .i64 (rep.er : Int), .bool rep.granted, .int .i64 rep.left, .int .i64 rep.wait, .int .i64 rep.ser, .int .i64 rep.now] 39 (0, 0))) 3;  clear hp hx)
        | ((with_reducible refine (AQ.out _ XA.out (XG X W.heap.size) (kpg XA.out (Nat.le_refl _)) (HX.out.xg XA.out (by simp))).mono ?_); rintro e w2 ⟨r', rfl, hp, hx⟩; have HX2 := Lib.hid (XA.out.trans hx); have HPK := Lib.hid (parts_keep (X := X) (S := fun i => i = W.heap.size) hp (fun _ e => .inr e) (fun _ e => .inl e)); have HG6 := Lib.hid (fun a (h : GB w2 a (fun i => i = W.heap.size)) b0 b1 b2 b3 b4 b5 => gb_six (g := W.heap.size) h (.inl (rfl)) b0 b1 b2 b3 b4 b5);  have K7 := Lib.hid (blk_ext (show (W.alloc zRep).drew.heap[W.heap.size]? = some zRep from blk_new W _) hx); have hz : W.heap.size < w2.heap.size := blk_lt K7.out; have u1 : w2.heap[W.heap.size]? = some zRep := K7.out; have u1_0 : w2.cell? ⟨W.heap.size, 0, none⟩ = some (.int .i64 0) := blk_cell u1 0; have u1_z0 : w2.frozen? ⟨W.heap.size, 0, none⟩ = false := blk_frozen u1 0; have u1_1 : w2.cell? ⟨W.heap.size, 1, none⟩ = some (.bool false) := blk_cell u1 1; have u1_z1 : w2.frozen? ⟨W.heap.size, 1, none⟩ = false := blk_frozen u1 1; have u1_2 : w2.cell? ⟨W.heap.size, 2, none⟩ = some (.int .i64 0) := blk_cell u1 2; have u1_z2 : w2.frozen? ⟨W.heap.size, 2, none⟩ = false := blk_frozen u1 2; have u1_3 : w2.cell? ⟨W.heap.size, 3, none⟩ = some (.int .i64 0) := blk_cell u1 3; have u1_z3 : w2.frozen? ⟨W.heap.size, 3, none⟩ = false := blk_frozen u1 3; have u1_4 : w2.cell? ⟨W.heap.size, 4, none⟩ = some (.int .i64 0) := blk_cell u1 4; have u1_z4 : w2.frozen? ⟨W.heap.size, 4, none⟩ = false := blk_frozen u1 4; have u1_5 : w2.cell? ⟨W.heap.size, 5, none⟩ = some (.int .i64 0) := blk_cell u1 5; have u1_z5 : w2.frozen? ⟨W.heap.size, 5, none⟩ = false := blk_frozen u1 5; clear u1; have v11c : (w2.alloc zCel).cell? ⟨W.heap.size, 0, none⟩ = some (.int .i64 0) := cell_past (blk_cell K7.out 0 : w2.cell? ⟨W.heap.size, 0, none⟩ = some (.int .i64 0)) zCel; have v11z : (w2.alloc zCel).frozen? ⟨W.heap.size, 0, none⟩ = false := fz_past K7.out 0 zCel; have v12c : ((w2.setCell ⟨W.heap.size, 0, none⟩ (.int .i64 (rep.er : Int))).alloc zCel).cell? ⟨W.heap.size, 1, none⟩ = some (.bool false) := cell_past (cell_off (u := .int .i64 (rep.er : Int)) (blk_cell K7.out 1 : w2.cell? ⟨W.heap.size, 1, none⟩ = some (.bool false)) (by decide : 1 ≠ 0)) zCel; have v12z : ((w2.setCell ⟨W.heap.size, 0, none⟩ (.int .i64 (rep.er : Int))).alloc zCel).frozen? ⟨W.heap.size, 1, none⟩ = false := fz_past (blk_set K7.out 0 (.int .i64 (rep.er : Int))) 1 zCel; have v13c : (((w2.setCell ⟨W.heap.size, 0, none⟩ (.int .i64 (rep.er : Int))).setCell ⟨W.heap.size, 1, none⟩ (.bool rep.granted)).alloc zCel).cell? ⟨W.heap.size, 2, none⟩ = some (.int .i64 0) := cell_past (cell_off (u := .bool rep.granted) (cell_off (u := .int .i64 (rep.er : Int)) (blk_cell K7.out 2 : w2.cell? ⟨W.heap.size, 2, none⟩ = some (.int .i64 0)) (by decide : 2 ≠ 0)) (by decide : 2 ≠ 1)) zCel; have v13z : (((w2.setCell ⟨W.heap.size, 0, none⟩ (.int .i64 (rep.er : Int))).setCell ⟨W.heap.size, 1, none⟩ (.bool rep.granted)).alloc zCel).frozen? ⟨W.heap.size, 2, none⟩ = false := fz_past (blk_set (blk_set K7.out 0 (.int .i64 (rep.er : Int))) 1 (.bool rep.granted)) 2 zCel; have v14c : ((((w2.setCell ⟨W.heap.size, 0, none⟩ (.int .i64 (rep.er : Int))).setCell ⟨W.heap.size, 1, none⟩ (.bool rep.granted)).setCell ⟨W.heap.size, 2, none⟩ (.int .i64 rep.left)).alloc zCel).cell? ⟨W.heap.size, 3, none⟩ = some (.int .i64 0) := cell_past (cell_off (u := .int .i64 rep.left) (cell_off (u := .bool rep.granted) (cell_off (u := .int .i64 (rep.er : Int)) (blk_cell K7.out 3 : w2.cell? ⟨W.heap.size, 3, none⟩ = some (.int .i64 0)) (by decide : 3 ≠ 0)) (by decide : 3 ≠ 1)) (by decide : 3 ≠ 2)) zCel; have v14z : ((((w2.setCell ⟨W.heap.size, 0, none⟩ (.int .i64 (rep.er : Int))).setCell ⟨W.heap.size, 1, none⟩ (.bool rep.granted)).setCell ⟨W.heap.size, 2, none⟩ (.int .i64 rep.left)).alloc zCel).frozen? ⟨W.heap.size, 3, none⟩ = false := fz_past (blk_set (blk_set (blk_set K7.out 0 (.int .i64 (rep.er : Int))) 1 (.bool rep.granted)) 2 (.int .i64 rep.left)) 3 zCel; have v15c : (((((w2.setCell ⟨W.heap.size, 0, none⟩ (.int .i64 (rep.er : Int))).setCell ⟨W.heap.size, 1, none⟩ (.bool rep.granted)).setCell ⟨W.heap.size, 2, none⟩ (.int .i64 rep.left)).setCell ⟨W.heap.size, 3, none⟩ (.int .i64 rep.wait)).alloc zCel).cell? ⟨W.heap.size, 4, none⟩ = some (.int .i64 0) := cell_past (cell_off (u := .int .i64 rep.wait) (cell_off (u := .int .i64 rep.left) (cell_off (u := .bool rep.granted) (cell_off (u := .int .i64 (rep.er : Int)) (blk_cell K7.out 4 : w2.cell? ⟨W.heap.size, 4, none⟩ = some (.int .i64 0)) (by decide : 4 ≠ 0)) (by decide : 4 ≠ 1)) (by decide : 4 ≠ 2)) (by decide : 4 ≠ 3)) zCel; have v15z : (((((w2.setCell ⟨W.heap.size, 0, none⟩ (.int .i64 (rep.er : Int))).setCell ⟨W.heap.size, 1, none⟩ (.bool rep.granted)).setCell ⟨W.heap.size, 2, none⟩ (.int .i64 rep.left)).setCell ⟨W.heap.size, 3, none⟩ (.int .i64 rep.wait)).alloc zCel).frozen? ⟨W.heap.size, 4, none⟩ = false := fz_past (blk_set (blk_set (blk_set (blk_set K7.out 0 (.int .i64 (rep.er : Int))) 1 (.bool rep.granted)) 2 (.int .i64 rep.left)) 3 (.int .i64 rep.wait)) 4 zCel; have v16c : ((((((w2.setCell ⟨W.heap.size, 0, none⟩ (.int .i64 (rep.er : Int))).setCell ⟨W.heap.size, 1, none⟩ (.bool rep.granted)).setCell ⟨W.heap.size, 2, none⟩ (.int .i64 rep.left)).setCell ⟨W.heap.size, 3, none⟩ (.int .i64 rep.wait)).setCell ⟨W.heap.size, 4, none⟩ (.int .i64 rep.ser)).alloc zCel).cell? ⟨W.heap.size, 5, none⟩ = some (.int .i64 0) := cell_past (cell_off (u := .int .i64 rep.ser) (cell_off (u := .int .i64 rep.wait) (cell_off (u := .int .i64 rep.left) (cell_off (u := .bool rep.granted) (cell_off (u := .int .i64 (rep.er : Int)) (blk_cell K7.out 5 : w2.cell? ⟨W.heap.size, 5, none⟩ = some (.int .i64 0)) (by decide : 5 ≠ 0)) (by decide : 5 ≠ 1)) (by decide : 5 ≠ 2)) (by decide : 5 ≠ 3)) (by decide : 5 ≠ 4)) zCel; have v16z : ((((((w2.setCell ⟨W.heap.size, 0, none⟩ (.int .i64 (rep.er : Int))).setCell ⟨W.heap.size, 1, none⟩ (.bool rep.granted)).setCell ⟨W.heap.size, 2, none⟩ (.int .i64 rep.left)).setCell ⟨W.heap.size, 3, none⟩ (.int .i64 rep.wait)).setCell ⟨W.heap.size, 4, none⟩ (.int .i64 rep.ser)).alloc zCel).frozen? ⟨W.heap.size, 5, none⟩ = false := fz_past (blk_set (blk_set (blk_set (blk_set (blk_set K7.out 0 (.int .i64 (rep.er : Int))) 1 (.bool rep.granted)) 2 (.int .i64 rep.left)) 3 (.int .i64 rep.wait)) 4 (.int .i64 rep.ser)) 5 zCel;  clear hp hx)
        | ((with_reducible refine (AQ.out _ XB.out (XG X W.heap.size) (kpg XB.out (Nat.le_refl _)) (HX.out.xg XB.out (by simp))).mono ?_); rintro e w2 ⟨r', rfl, hp, hx⟩; have HX2 := Lib.hid (XB.out.trans hx); have HPK := Lib.hid (parts_keep (X := X) (S := fun i => i = W.heap.size) hp (fun _ e => .inr e) (fun _ e => .inl e)); have HG4 := Lib.hid (fun a (h : GB w2 a (fun i => i = W.heap.size)) b0 b1 b2 b3 => gb_four (g := W.heap.size) h (.inl (rfl)) b0 b1 b2 b3);  have K8 := Lib.hid (blk_ext (show (W.alloc zCel).drew.heap[W.heap.size]? = some zCel from blk_new W _) hx); have hz : W.heap.size < w2.heap.size := blk_lt K8.out; have v17c : (w2.alloc (.cells #[.int .i64 (rep.er : Int), .bool rep.granted, .int .i64 rep.left, .int .i64 rep.wait, .int .i64 rep.ser, .int .i64 rep.now] 39 (0, 0))).cell? ⟨W.heap.size, 0, none⟩ = some (.int .i64 0) := cell_past (blk_cell K8.out 0 : w2.cell? ⟨W.heap.size, 0, none⟩ = some (.int .i64 0)) (.cells #[.int .i64 (rep.er : Int), .bool rep.granted, .int .i64 rep.left, .int .i64 rep.wait, .int .i64 rep.ser, .int .i64 rep.now] 39 (0, 0)); have v17z : (w2.alloc (.cells #[.int .i64 (rep.er : Int), .bool rep.granted, .int .i64 rep.left, .int .i64 rep.wait, .int .i64 rep.ser, .int .i64 rep.now] 39 (0, 0))).frozen? ⟨W.heap.size, 0, none⟩ = false := fz_past K8.out 0 (.cells #[.int .i64 (rep.er : Int), .bool rep.granted, .int .i64 rep.left, .int .i64 rep.wait, .int .i64 rep.ser, .int .i64 rep.now] 39 (0, 0)); have v18c : ((w2.setCell ⟨W.heap.size, 0, none⟩ (.int .i64 (ce'.pol : Int))).alloc (.cells #[.int .i64 (rep.er : Int), .bool rep.granted, .int .i64 rep.left, .int .i64 rep.wait, .int .i64 rep.ser, .int .i64 rep.now] 39 (0, 0))).cell? ⟨W.heap.size, 1, none⟩ = some (.slice none 0 0) := cell_past (cell_off (u := .int .i64 (ce'.pol : Int)) (blk_cell K8.out 1 : w2.cell? ⟨W.heap.size, 1, none⟩ = some (.slice none 0 0)) (by decide : 1 ≠ 0)) (.cells #[.int .i64 (rep.er : Int), .bool rep.granted, .int .i64 rep.left, .int .i64 rep.wait, .int .i64 rep.ser, .int .i64 rep.now] 39 (0, 0)); have v18z : ((w2.setCell ⟨W.heap.size, 0, none⟩ (.int .i64 (ce'.pol : Int))).alloc (.cells #[.int .i64 (rep.er : Int), .bool rep.granted, .int .i64 rep.left, .int .i64 rep.wait, .int .i64 rep.ser, .int .i64 rep.now] 39 (0, 0))).frozen? ⟨W.heap.size, 1, none⟩ = false := fz_past (blk_set K8.out 0 (.int .i64 (ce'.pol : Int))) 1 (.cells #[.int .i64 (rep.er : Int), .bool rep.granted, .int .i64 rep.left, .int .i64 rep.wait, .int .i64 rep.ser, .int .i64 rep.now] 39 (0, 0)); have v19c : (((w2.setCell ⟨W.heap.size, 0, none⟩ (.int .i64 (ce'.pol : Int))).setCell ⟨W.heap.size, 1, none⟩ (.slice r'.K ce'.key.length r'.kc)).alloc (.cells #[.int .i64 (rep.er : Int), .bool rep.granted, .int .i64 rep.left, .int .i64 rep.wait, .int .i64 rep.ser, .int .i64 rep.now] 39 (0, 0))).cell? ⟨W.heap.size, 2, none⟩ = some (.int .i64 0) := cell_past (cell_off (u := .slice r'.K ce'.key.length r'.kc) (cell_off (u := .int .i64 (ce'.pol : Int)) (blk_cell K8.out 2 : w2.cell? ⟨W.heap.size, 2, none⟩ = some (.int .i64 0)) (by decide : 2 ≠ 0)) (by decide : 2 ≠ 1)) (.cells #[.int .i64 (rep.er : Int), .bool rep.granted, .int .i64 rep.left, .int .i64 rep.wait, .int .i64 rep.ser, .int .i64 rep.now] 39 (0, 0)); have v19z : (((w2.setCell ⟨W.heap.size, 0, none⟩ (.int .i64 (ce'.pol : Int))).setCell ⟨W.heap.size, 1, none⟩ (.slice r'.K ce'.key.length r'.kc)).alloc (.cells #[.int .i64 (rep.er : Int), .bool rep.granted, .int .i64 rep.left, .int .i64 rep.wait, .int .i64 rep.ser, .int .i64 rep.now] 39 (0, 0))).frozen? ⟨W.heap.size, 2, none⟩ = false := fz_past (blk_set (blk_set K8.out 0 (.int .i64 (ce'.pol : Int))) 1 (.slice r'.K ce'.key.length r'.kc)) 2 (.cells #[.int .i64 (rep.er : Int), .bool rep.granted, .int .i64 rep.left, .int .i64 rep.wait, .int .i64 rep.ser, .int .i64 rep.now] 39 (0, 0)); have v20c : ((((w2.setCell ⟨W.heap.size, 0, none⟩ (.int .i64 (ce'.pol : Int))).setCell ⟨W.heap.size, 1, none⟩ (.slice r'.K ce'.key.length r'.kc)).setCell ⟨W.heap.size, 2, none⟩ (.int .i64 ce'.tat)).alloc (.cells #[.int .i64 (rep.er : Int), .bool rep.granted, .int .i64 rep.left, .int .i64 rep.wait, .int .i64 rep.ser, .int .i64 rep.now] 39 (0, 0))).cell? ⟨W.heap.size, 3, none⟩ = some (.slice none 0 0) := cell_past (cell_off (u := .int .i64 ce'.tat) (cell_off (u := .slice r'.K ce'.key.length r'.kc) (cell_off (u := .int .i64 (ce'.pol : Int)) (blk_cell K8.out 3 : w2.cell? ⟨W.heap.size, 3, none⟩ = some (.slice none 0 0)) (by decide : 3 ≠ 0)) (by decide : 3 ≠ 1)) (by decide : 3 ≠ 2)) (.cells #[.int .i64 (rep.er : Int), .bool rep.granted, .int .i64 rep.left, .int .i64 rep.wait, .int .i64 rep.ser, .int .i64 rep.now] 39 (0, 0)); have v20z : ((((w2.setCell ⟨W.heap.size, 0, none⟩ (.int .i64 (ce'.pol : Int))).setCell ⟨W.heap.size, 1, none⟩ (.slice r'.K ce'.key.length r'.kc)).setCell ⟨W.heap.size, 2, none⟩ (.int .i64 ce'.tat)).alloc (.cells #[.int .i64 (rep.er : Int), .bool rep.granted, .int .i64 rep.left, .int .i64 rep.wait, .int .i64 rep.ser, .int .i64 rep.now] 39 (0, 0))).frozen? ⟨W.heap.size, 3, none⟩ = false := fz_past (blk_set (blk_set (blk_set K8.out 0 (.int .i64 (ce'.pol : Int))) 1 (.slice r'.K ce'.key.length r'.kc)) 2 (.int .i64 ce'.tat)) 3 (.cells #[.int .i64 (rep.er : Int), .bool rep.granted, .int .i64 rep.left, .int .i64 rep.wait, .int .i64 rep.ser, .int .i64 rep.now] 39 (0, 0));  clear hp hx)
        | ((with_reducible refine (AQ.out _ XAB.out (XG (XG X W.heap.size) (W.heap.size + 1)) (kpg2 XAB.out) (newer_two HX.out XAB.out (by simp))).mono ?_); rintro e w2 ⟨r', rfl, hp, hx⟩; have HX2 := Lib.hid (XAB.out.trans hx); have HPK := Lib.hid (parts_keep (X := X) (S := fun i => i = W.heap.size ∨ i = W.heap.size + 1) hp (fun _ e => e.elim (fun e => .inl (.inr e)) .inr) (fun _ e => .inl (.inl e))); have HG6 := Lib.hid (fun a (h : GB w2 a (fun i => i = W.heap.size ∨ i = W.heap.size + 1)) b0 b1 b2 b3 b4 b5 => gb_six (g := W.heap.size) h (.inl (.inl rfl)) b0 b1 b2 b3 b4 b5); have HG4 := Lib.hid (fun a (h : GB w2 a (fun i => i = W.heap.size ∨ i = W.heap.size + 1)) b0 b1 b2 b3 => gb_four (g := (W.heap.size + 1)) h (.inl (.inr rfl)) b0 b1 b2 b3);  have K7 := Lib.hid (blk_ext (show ((W.alloc zRep).alloc zCel).drew.heap[W.heap.size]? = some zRep from blk_past (blk_new W _) _) hx); have K8 := Lib.hid (blk_ext (show ((W.alloc zRep).alloc zCel).drew.heap[W.heap.size + 1]? = some zCel from blk_newk _ _ (by simp)) hx); have hz : W.heap.size + 1 < w2.heap.size := blk_lt K8.out; have u1 : w2.heap[W.heap.size]? = some zRep := K7.out; have u1_0 : w2.cell? ⟨W.heap.size, 0, none⟩ = some (.int .i64 0) := blk_cell u1 0; have u1_z0 : w2.frozen? ⟨W.heap.size, 0, none⟩ = false := blk_frozen u1 0; have u1_1 : w2.cell? ⟨W.heap.size, 1, none⟩ = some (.bool false) := blk_cell u1 1; have u1_z1 : w2.frozen? ⟨W.heap.size, 1, none⟩ = false := blk_frozen u1 1; have u1_2 : w2.cell? ⟨W.heap.size, 2, none⟩ = some (.int .i64 0) := blk_cell u1 2; have u1_z2 : w2.frozen? ⟨W.heap.size, 2, none⟩ = false := blk_frozen u1 2; have u1_3 : w2.cell? ⟨W.heap.size, 3, none⟩ = some (.int .i64 0) := blk_cell u1 3; have u1_z3 : w2.frozen? ⟨W.heap.size, 3, none⟩ = false := blk_frozen u1 3; have u1_4 : w2.cell? ⟨W.heap.size, 4, none⟩ = some (.int .i64 0) := blk_cell u1 4; have u1_z4 : w2.frozen? ⟨W.heap.size, 4, none⟩ = false := blk_frozen u1 4; have u1_5 : w2.cell? ⟨W.heap.size, 5, none⟩ = some (.int .i64 0) := blk_cell u1 5; have u1_z5 : w2.frozen? ⟨W.heap.size, 5, none⟩ = false := blk_frozen u1 5; clear u1; have u2 : ((((((w2.setCell ⟨W.heap.size, 0, none⟩ (.int .i64 (rep.er : Int))).setCell ⟨W.heap.size, 1, none⟩ (.bool rep.granted)).setCell ⟨W.heap.size, 2, none⟩ (.int .i64 rep.left)).setCell ⟨W.heap.size, 3, none⟩ (.int .i64 rep.wait)).setCell ⟨W.heap.size, 4, none⟩ (.int .i64 rep.ser)).setCell ⟨W.heap.size, 5, none⟩ (.int .i64 rep.now)).heap[(W.heap.size + 1)]? = some zCel := blk_o6 K8.out (by omega); have u2_0 : ((((((w2.setCell ⟨W.heap.size, 0, none⟩ (.int .i64 (rep.er : Int))).setCell ⟨W.heap.size, 1, none⟩ (.bool rep.granted)).setCell ⟨W.heap.size, 2, none⟩ (.int .i64 rep.left)).setCell ⟨W.heap.size, 3, none⟩ (.int .i64 rep.wait)).setCell ⟨W.heap.size, 4, none⟩ (.int .i64 rep.ser)).setCell ⟨W.heap.size, 5, none⟩ (.int .i64 rep.now)).cell? ⟨(W.heap.size + 1), 0, none⟩ = some (.int .i64 0) := blk_cell u2 0; have u2_z0 : ((((((w2.setCell ⟨W.heap.size, 0, none⟩ (.int .i64 (rep.er : Int))).setCell ⟨W.heap.size, 1, none⟩ (.bool rep.granted)).setCell ⟨W.heap.size, 2, none⟩ (.int .i64 rep.left)).setCell ⟨W.heap.size, 3, none⟩ (.int .i64 rep.wait)).setCell ⟨W.heap.size, 4, none⟩ (.int .i64 rep.ser)).setCell ⟨W.heap.size, 5, none⟩ (.int .i64 rep.now)).frozen? ⟨(W.heap.size + 1), 0, none⟩ = false := blk_frozen u2 0; have u2_1 : ((((((w2.setCell ⟨W.heap.size, 0, none⟩ (.int .i64 (rep.er : Int))).setCell ⟨W.heap.size, 1, none⟩ (.bool rep.granted)).setCell ⟨W.heap.size, 2, none⟩ (.int .i64 rep.left)).setCell ⟨W.heap.size, 3, none⟩ (.int .i64 rep.wait)).setCell ⟨W.heap.size, 4, none⟩ (.int .i64 rep.ser)).setCell ⟨W.heap.size, 5, none⟩ (.int .i64 rep.now)).cell? ⟨(W.heap.size + 1), 1, none⟩ = some (.slice none 0 0) := blk_cell u2 1; have u2_z1 : ((((((w2.setCell ⟨W.heap.size, 0, none⟩ (.int .i64 (rep.er : Int))).setCell ⟨W.heap.size, 1, none⟩ (.bool rep.granted)).setCell ⟨W.heap.size, 2, none⟩ (.int .i64 rep.left)).setCell ⟨W.heap.size, 3, none⟩ (.int .i64 rep.wait)).setCell ⟨W.heap.size, 4, none⟩ (.int .i64 rep.ser)).setCell ⟨W.heap.size, 5, none⟩ (.int .i64 rep.now)).frozen? ⟨(W.heap.size + 1), 1, none⟩ = false := blk_frozen u2 1; have u2_2 : ((((((w2.setCell ⟨W.heap.size, 0, none⟩ (.int .i64 (rep.er : Int))).setCell ⟨W.heap.size, 1, none⟩ (.bool rep.granted)).setCell ⟨W.heap.size, 2, none⟩ (.int .i64 rep.left)).setCell ⟨W.heap.size, 3, none⟩ (.int .i64 rep.wait)).setCell ⟨W.heap.size, 4, none⟩ (.int .i64 rep.ser)).setCell ⟨W.heap.size, 5, none⟩ (.int .i64 rep.now)).cell? ⟨(W.heap.size + 1), 2, none⟩ = some (.int .i64 0) := blk_cell u2 2; have u2_z2 : ((((((w2.setCell ⟨W.heap.size, 0, none⟩ (.int .i64 (rep.er : Int))).setCell ⟨W.heap.size, 1, none⟩ (.bool rep.granted)).setCell ⟨W.heap.size, 2, none⟩ (.int .i64 rep.left)).setCell ⟨W.heap.size, 3, none⟩ (.int .i64 rep.wait)).setCell ⟨W.heap.size, 4, none⟩ (.int .i64 rep.ser)).setCell ⟨W.heap.size, 5, none⟩ (.int .i64 rep.now)).frozen? ⟨(W.heap.size + 1), 2, none⟩ = false := blk_frozen u2 2; have u2_3 : ((((((w2.setCell ⟨W.heap.size, 0, none⟩ (.int .i64 (rep.er : Int))).setCell ⟨W.heap.size, 1, none⟩ (.bool rep.granted)).setCell ⟨W.heap.size, 2, none⟩ (.int .i64 rep.left)).setCell ⟨W.heap.size, 3, none⟩ (.int .i64 rep.wait)).setCell ⟨W.heap.size, 4, none⟩ (.int .i64 rep.ser)).setCell ⟨W.heap.size, 5, none⟩ (.int .i64 rep.now)).cell? ⟨(W.heap.size + 1), 3, none⟩ = some (.slice none 0 0) := blk_cell u2 3; have u2_z3 : ((((((w2.setCell ⟨W.heap.size, 0, none⟩ (.int .i64 (rep.er : Int))).setCell ⟨W.heap.size, 1, none⟩ (.bool rep.granted)).setCell ⟨W.heap.size, 2, none⟩ (.int .i64 rep.left)).setCell ⟨W.heap.size, 3, none⟩ (.int .i64 rep.wait)).setCell ⟨W.heap.size, 4, none⟩ (.int .i64 rep.ser)).setCell ⟨W.heap.size, 5, none⟩ (.int .i64 rep.now)).frozen? ⟨(W.heap.size + 1), 3, none⟩ = false := blk_frozen u2 3; clear u2;  clear hp hx)
        | ((with_reducible refine (AQ.out _ XBA.out (XG (XG X W.heap.size) (W.heap.size + 1)) (kpg2 XBA.out) (newer_two HX.out XBA.out (by simp))).mono ?_); rintro e w2 ⟨r', rfl, hp, hx⟩; have HX2 := Lib.hid (XBA.out.trans hx); have HPK := Lib.hid (parts_keep (X := X) (S := fun i => i = W.heap.size ∨ i = W.heap.size + 1) hp (fun _ e => e.elim (fun e => .inl (.inr e)) .inr) (fun _ e => .inl (.inl e))); have HG6 := Lib.hid (fun a (h : GB w2 a (fun i => i = W.heap.size ∨ i = W.heap.size + 1)) b0 b1 b2 b3 b4 b5 => gb_six (g := (W.heap.size + 1)) h (.inl (.inr rfl)) b0 b1 b2 b3 b4 b5); have HG4 := Lib.hid (fun a (h : GB w2 a (fun i => i = W.heap.size ∨ i = W.heap.size + 1)) b0 b1 b2 b3 => gb_four (g := W.heap.size) h (.inl (.inl rfl)) b0 b1 b2 b3);  have K8 := Lib.hid (blk_ext (show ((W.alloc zCel).alloc zRep).drew.heap[W.heap.size]? = some zCel from blk_past (blk_new W _) _) hx); have K7 := Lib.hid (blk_ext (show ((W.alloc zCel).alloc zRep).drew.heap[W.heap.size + 1]? = some zRep from blk_newk _ _ (by simp)) hx); have hz : W.heap.size + 1 < w2.heap.size := blk_lt K7.out; have u1 : w2.heap[(W.heap.size + 1)]? = some zRep := K7.out; have u1_0 : w2.cell? ⟨(W.heap.size + 1), 0, none⟩ = some (.int .i64 0) := blk_cell u1 0; have u1_z0 : w2.frozen? ⟨(W.heap.size + 1), 0, none⟩ = false := blk_frozen u1 0; have u1_1 : w2.cell? ⟨(W.heap.size + 1), 1, none⟩ = some (.bool false) := blk_cell u1 1; have u1_z1 : w2.frozen? ⟨(W.heap.size + 1), 1, none⟩ = false := blk_frozen u1 1; have u1_2 : w2.cell? ⟨(W.heap.size + 1), 2, none⟩ = some (.int .i64 0) := blk_cell u1 2; have u1_z2 : w2.frozen? ⟨(W.heap.size + 1), 2, none⟩ = false := blk_frozen u1 2; have u1_3 : w2.cell? ⟨(W.heap.size + 1), 3, none⟩ = some (.int .i64 0) := blk_cell u1 3; have u1_z3 : w2.frozen? ⟨(W.heap.size + 1), 3, none⟩ = false := blk_frozen u1 3; have u1_4 : w2.cell? ⟨(W.heap.size + 1), 4, none⟩ = some (.int .i64 0) := blk_cell u1 4; have u1_z4 : w2.frozen? ⟨(W.heap.size + 1), 4, none⟩ = false := blk_frozen u1 4; have u1_5 : w2.cell? ⟨(W.heap.size + 1), 5, none⟩ = some (.int .i64 0) := blk_cell u1 5; have u1_z5 : w2.frozen? ⟨(W.heap.size + 1), 5, none⟩ = false := blk_frozen u1 5; clear u1; have u2 : ((((((w2.setCell ⟨(W.heap.size + 1), 0, none⟩ (.int .i64 (rep.er : Int))).setCell ⟨(W.heap.size + 1), 1, none⟩ (.bool rep.granted)).setCell ⟨(W.heap.size + 1), 2, none⟩ (.int .i64 rep.left)).setCell ⟨(W.heap.size + 1), 3, none⟩ (.int .i64 rep.wait)).setCell ⟨(W.heap.size + 1), 4, none⟩ (.int .i64 rep.ser)).setCell ⟨(W.heap.size + 1), 5, none⟩ (.int .i64 rep.now)).heap[W.heap.size]? = some zCel := blk_o6 K8.out (by omega); have u2_0 : ((((((w2.setCell ⟨(W.heap.size + 1), 0, none⟩ (.int .i64 (rep.er : Int))).setCell ⟨(W.heap.size + 1), 1, none⟩ (.bool rep.granted)).setCell ⟨(W.heap.size + 1), 2, none⟩ (.int .i64 rep.left)).setCell ⟨(W.heap.size + 1), 3, none⟩ (.int .i64 rep.wait)).setCell ⟨(W.heap.size + 1), 4, none⟩ (.int .i64 rep.ser)).setCell ⟨(W.heap.size + 1), 5, none⟩ (.int .i64 rep.now)).cell? ⟨W.heap.size, 0, none⟩ = some (.int .i64 0) := blk_cell u2 0; have u2_z0 : ((((((w2.setCell ⟨(W.heap.size + 1), 0, none⟩ (.int .i64 (rep.er : Int))).setCell ⟨(W.heap.size + 1), 1, none⟩ (.bool rep.granted)).setCell ⟨(W.heap.size + 1), 2, none⟩ (.int .i64 rep.left)).setCell ⟨(W.heap.size + 1), 3, none⟩ (.int .i64 rep.wait)).setCell ⟨(W.heap.size + 1), 4, none⟩ (.int .i64 rep.ser)).setCell ⟨(W.heap.size + 1), 5, none⟩ (.int .i64 rep.now)).frozen? ⟨W.heap.size, 0, none⟩ = false := blk_frozen u2 0; have u2_1 : ((((((w2.setCell ⟨(W.heap.size + 1), 0, none⟩ (.int .i64 (rep.er : Int))).setCell ⟨(W.heap.size + 1), 1, none⟩ (.bool rep.granted)).setCell ⟨(W.heap.size + 1), 2, none⟩ (.int .i64 rep.left)).setCell ⟨(W.heap.size + 1), 3, none⟩ (.int .i64 rep.wait)).setCell ⟨(W.heap.size + 1), 4, none⟩ (.int .i64 rep.ser)).setCell ⟨(W.heap.size + 1), 5, none⟩ (.int .i64 rep.now)).cell? ⟨W.heap.size, 1, none⟩ = some (.slice none 0 0) := blk_cell u2 1; have u2_z1 : ((((((w2.setCell ⟨(W.heap.size + 1), 0, none⟩ (.int .i64 (rep.er : Int))).setCell ⟨(W.heap.size + 1), 1, none⟩ (.bool rep.granted)).setCell ⟨(W.heap.size + 1), 2, none⟩ (.int .i64 rep.left)).setCell ⟨(W.heap.size + 1), 3, none⟩ (.int .i64 rep.wait)).setCell ⟨(W.heap.size + 1), 4, none⟩ (.int .i64 rep.ser)).setCell ⟨(W.heap.size + 1), 5, none⟩ (.int .i64 rep.now)).frozen? ⟨W.heap.size, 1, none⟩ = false := blk_frozen u2 1; have u2_2 : ((((((w2.setCell ⟨(W.heap.size + 1), 0, none⟩ (.int .i64 (rep.er : Int))).setCell ⟨(W.heap.size + 1), 1, none⟩ (.bool rep.granted)).setCell ⟨(W.heap.size + 1), 2, none⟩ (.int .i64 rep.left)).setCell ⟨(W.heap.size + 1), 3, none⟩ (.int .i64 rep.wait)).setCell ⟨(W.heap.size + 1), 4, none⟩ (.int .i64 rep.ser)).setCell ⟨(W.heap.size + 1), 5, none⟩ (.int .i64 rep.now)).cell? ⟨W.heap.size, 2, none⟩ = some (.int .i64 0) := blk_cell u2 2; have u2_z2 : ((((((w2.setCell ⟨(W.heap.size + 1), 0, none⟩ (.int .i64 (rep.er : Int))).setCell ⟨(W.heap.size + 1), 1, none⟩ (.bool rep.granted)).setCell ⟨(W.heap.size + 1), 2, none⟩ (.int .i64 rep.left)).setCell ⟨(W.heap.size + 1), 3, none⟩ (.int .i64 rep.wait)).setCell ⟨(W.heap.size + 1), 4, none⟩ (.int .i64 rep.ser)).setCell ⟨(W.heap.size + 1), 5, none⟩ (.int .i64 rep.now)).frozen? ⟨W.heap.size, 2, none⟩ = false := blk_frozen u2 2; have u2_3 : ((((((w2.setCell ⟨(W.heap.size + 1), 0, none⟩ (.int .i64 (rep.er : Int))).setCell ⟨(W.heap.size + 1), 1, none⟩ (.bool rep.granted)).setCell ⟨(W.heap.size + 1), 2, none⟩ (.int .i64 rep.left)).setCell ⟨(W.heap.size + 1), 3, none⟩ (.int .i64 rep.wait)).setCell ⟨(W.heap.size + 1), 4, none⟩ (.int .i64 rep.ser)).setCell ⟨(W.heap.size + 1), 5, none⟩ (.int .i64 rep.now)).cell? ⟨W.heap.size, 3, none⟩ = some (.slice none 0 0) := blk_cell u2 3; have u2_z3 : ((((((w2.setCell ⟨(W.heap.size + 1), 0, none⟩ (.int .i64 (rep.er : Int))).setCell ⟨(W.heap.size + 1), 1, none⟩ (.bool rep.granted)).setCell ⟨(W.heap.size + 1), 2, none⟩ (.int .i64 rep.left)).setCell ⟨(W.heap.size + 1), 3, none⟩ (.int .i64 rep.wait)).setCell ⟨(W.heap.size + 1), 4, none⟩ (.int .i64 rep.ser)).setCell ⟨(W.heap.size + 1), 5, none⟩ (.int .i64 rep.now)).frozen? ⟨W.heap.size, 3, none⟩ = false := blk_frozen u2 3; clear u2;  clear hp hx)))
    all_goals
      go_wp2_with fail
      go_meet
      refine ⟨_, _, r', rfl, rfl, ?_, ?_, by omega, by omega, HPK.out _ ?_, ?_⟩
      · repeat (first | (with_reducible exact K7.out) | (with_reducible exact K8.out) | (with_reducible exact row6 K7.out _ _ _ _ _ _) | (with_reducible exact row4 K8.out _ _ _ _) | (with_reducible exact row4 (blk_o6 K8.out (by omega)) _ _ _ _) | (with_reducible refine blk_drew' ?_) | (with_reducible exact blk_new _ _) | (with_reducible refine blk_newk _ _ (by simp)) | (with_reducible refine blk_o6 ?_ (by omega)) | (with_reducible refine blk_o4 ?_ (by omega)) | (with_reducible refine blk_past ?_ _))
      · repeat (first | (with_reducible exact K7.out) | (with_reducible exact K8.out) | (with_reducible exact row6 K7.out _ _ _ _ _ _) | (with_reducible exact row4 K8.out _ _ _ _) | (with_reducible exact row4 (blk_o6 K8.out (by omega)) _ _ _ _) | (with_reducible refine blk_drew' ?_) | (with_reducible exact blk_new _ _) | (with_reducible refine blk_newk _ _ (by simp)) | (with_reducible refine blk_o6 ?_ (by omega)) | (with_reducible refine blk_o4 ?_ (by omega)) | (with_reducible refine blk_past ?_ _))
      · repeat (first | (with_reducible exact GB.refl _ _) | (with_reducible refine GB.alloc ?_ _) | (with_reducible refine HG6.out _ ?_ _ _ _ _ _ _) | (with_reducible refine HG4.out _ ?_ _ _ _ _) | (with_reducible refine GB.drew ?_))
      · repeat (first | (with_reducible exact Ext.refl _) | (with_reducible exact HX2.out) | (with_reducible refine Ext.drew ?_) | (with_reducible refine Ext.alloc ?_ _) | (with_reducible refine ext6 ?_ (by omega) _ _ _ _ _ _) | (with_reducible refine ext4 ?_ (by omega) _ _ _ _))
  case rest =>
    obtain ⟨b7, b8, r9, rfl, rfl, kb7, kb8, hb7, hb8, hp, hx⟩ := hcut
    have PT := Lib.hid (cput_k wc X d f _ cf Af rsf ce' r9 rep res gx room (HX.out.ext hx) rfl (HCF.out.ext hx) hp (ext_cell hx H4'.out) (ext_cell hx H7'.out) (ext_cell hx HR'.out))
    have g0 : wc.cell? ⟨q2, 0, none⟩ = some (ptrV d.xb) := (H2.out.ext hx).cell 0
    have a0 : wc.cell? ⟨q3, 0, none⟩ = some (.int .i64 (f.word : Int)) := (HKF.out.ext hx).cell 0
    have a1 : wc.cell? ⟨q3, 1, none⟩ = some (.int .u64 (f.v : Int)) := (HKF.out.ext hx).cell 1
    have a2 : wc.cell? ⟨q3, 2, none⟩ = some (.slice Af f.cells.length cf) := (HKF.out.ext hx).cell 2
    have a4 : wc.cell? ⟨q4, 0, none⟩ = some (.int .i64 (f.at_ : Int)) := (H4.out.ext hx).cell 0
    have a5 : wc.cell? ⟨q5, 0, none⟩ = some (.bool f.there) := (H5.out.ext hx).cell 0
    have c0 := blk_cell kb8 0; have c1 := blk_cell kb8 1; have c2 := blk_cell kb8 2; have c3 := blk_cell kb8 3
    have s0 := blk_cell kb7 0; have s1 := blk_cell kb7 1; have s2 := blk_cell kb7 2; have s3 := blk_cell kb7 3; have s4 := blk_cell kb7 4; have s5 := blk_cell kb7 5
    have XX := Lib.hid hx
    clear kb7 kb8 hb7 hb8 hp hx e0 e1 e2 e3 f0 f1 f2 f3 h8
    go_wp2_with fail
    refine PT.out.mono ?_
    rintro e w2 ⟨v, rfl, hk, hx⟩
    have HK := Lib.hid hk; have HY := Lib.hid hx
    clear hk hx
    go_wp2_with fail
    go_ret
    exact ⟨_, rfl, HK.out, XX.out.trans HY.out⟩
end
end Go.Proofs.YtloidkmphigbdaaGreat
