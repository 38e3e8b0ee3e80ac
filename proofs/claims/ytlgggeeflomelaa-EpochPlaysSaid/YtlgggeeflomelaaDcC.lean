/- spigotref13: end, DocStart. -/
import Derived.Test.YtlgggeeflomelaaDcB
namespace Go.Proofs.Ytlgggeeflomelaa
open Go.RowKit

theorem DAt.in {w : World} {F : Nat → Prop} {gk n : Nat} {d : DSt} (h : DAt w F gk n d) : F (gk + 1) ∧ F gk := by
  obtain ⟨_, _, _, _, _, _, a, b, _⟩ := h
  exact ⟨a, b⟩
theorem DAt.put1 {w : World} {F : Nat → Prop} {gk n who : Nat} {d : DSt} (h : DAt w F gk n d) (hw : who < n) (j : Nat) (x : Value) (y : DWk) (hj : j < 7) (hj5 : j ≠ 5) (hx : ∀ v, (dwc (d.wk who, v)).set j x = dwc (y, v)) (hy : y.held = (d.wk who).held) :
    DAt (w.setCell ⟨gk, who * 7 + j, none⟩ x) F gk n (d.put who y) := by
  obtain ⟨B, c, _, _, _, _, _, _, _, _, _, hp, _⟩ := h.wk hw
  exact hp j x y hj hj5 (hx _) hy
theorem DAt.putep {w : World} {F : Nat → Prop} {gk n : Nat} {d : DSt} (h : DAt w F gk n d) (hn : 0 < n) (x : Nat) : DAt (w.setCell ⟨gk + 1, 0, none⟩ (.int .i64 (x : Int))) F gk n { d with ep := x } := by
  obtain ⟨B, c, _, _, _, _, _, _, _, _, _, _, hp⟩ := h.wk hn
  exact hp x
/-- a step's result of the document's, in new memory -/
def DRet (w : World) (F : Nat → Prop) (gk n : Nat) (d : DSt) (done : Bool) (er nu : Int) (xs : List Int) (e : Ending) (w' : World) : Prop :=
  ∃ A m c F', e = .returned (.agg #[.bool done, .int .i64 er, .int .i64 nu, .slice A m c]) ∧ DAt w' F' gk n d ∧ GB w w' F ∧ (∀ i, F i → F' i) ∧ (∀ i, F' i → F i ∨ w.heap.size ≤ i) ∧ ThOk w w' F' A m c xs
theorem dret_nil {w w1 : World} {F : Nat → Prop} {gk n : Nat} {d : DSt} (h : DAt w1 F gk n d) (g : GB w w1 F) (hlt : ∀ i, F i → i < w.heap.size) (a b c x : Value) (done : Bool) (er nu : Int) :
    DRet w F gk n d done er nu [] (.returned (.agg #[.bool done, .int .i64 er, .int .i64 nu, .slice none 0 0])) (put4 w1 w.heap.size a b c x) :=
  ⟨none, 0, 0, F, rfl, h.gb (put4_gb _ _ _ _ _ _) (fun i hi e => by have := hlt i hi; omega), g.trans (put4_gb _ _ _ _ _ _) (fun i e => .inr (by omega)), fun _ h => h, fun _ h => .inl h, World.ownsRow_nil _ _ _ _, fun q e => by cases e⟩
theorem dret_put {w w1 w2 : World} {F : Nat → Prop} {gk n : Nat} {d : DSt} {done : Bool} {er nu : Int} {xs : List Int} {e : Ending} (g : GB w w1 F) (hr : w.heap.size < w1.heap.size) (hlt : ∀ i, F i → i < w.heap.size) (a b c x : Value) (h : DRet w1 F gk n d done er nu xs e w2) :
    DRet w F gk n d done er nu xs e (put4 w2 w.heap.size a b c x) := by
  obtain ⟨A, m, k, F', rfl, h1, h2, h3, h4, h5, h6⟩ := h
  have hn : ¬ F' w.heap.size := fun e => by
    rcases h4 _ e with h | h
    · exact Nat.lt_irrefl _ (hlt _ h)
    · omega
  have gs := put4_gb w2 w.heap.size a b c x
  exact ⟨A, m, k, F', rfl, h1.gb gs (fun i hi e => hn (e ▸ hi)), (g.trans h2 (fun i hi => .inl hi)).trans gs (fun i e => .inr (by omega)), h3, fun i hi => (h4 i hi).imp id (fun e => by omega), own_base (gs.own h5 (fun q hq e => by have := (h5.lt q hq).1; omega)) (by omega), h6⟩
set_option maxRecDepth 100000 in
theorem dend_nil (w : World) (F : Nat → Prop) (gk n who : Nat) (d : DSt) (er nu : Int) (h : DAt w F gk n d) (hw : who < n) :
    Calls Try.prog 57 #[.pointer (some ⟨gk, who * 7, none⟩), .int .i64 er, .int .i64 nu] w (fun e w' => e = .returned (.agg #[.bool true, .int .i64 er, .int .i64 nu, .slice none 0 0]) ∧ DAt w' F gk n (d.put who { d.wk who with op := 0 }) ∧ GB w w' F) := by
  obtain ⟨W, hW⟩ : ∃ W, w.alloc (.cells #[.bool false, .int .i64 0, .int .i64 0, .slice none 0 0] 52) = W := ⟨_, rfl⟩
  have xW : Ext w W := by rw [← hW]; exact (Ext.refl w).alloc _
  have KR := show W.heap[w.heap.size]? = some (.cells #[.bool false, .int .i64 0, .int .i64 0, .slice none 0 0] 52 (0, 0)) by rw [← hW]; exact blk_new w _
  have hE := h.ext xW
  obtain ⟨B, c, -, -, c0, -, -, -, -, -, -, fz, -⟩ := hE.cells hw
  have f0 := fz (who * 7)
  have P := Lib.hid (hE.put1 hw 0 (.int .u8 0) { d.wk who with op := 0 } (by omega) (by omega) (fun v => rfl) rfl)
  have HLT := Lib.hid h.lt
  have HF := Lib.hid h.in.2
  have hrg : w.heap.size ≠ gk := fun e => Nat.lt_irrefl _ (HLT.out _ (e ▸ HF.out))
  have KR3 := Lib.hid (blk_grown KR (grown_set W gk (who * 7) (.int .u8 0)) hrg)
  have r0 := blk_cell KR3.out 0; have r1 := blk_cell KR3.out 1; have r2 := blk_cell KR3.out 2; have r3 := blk_cell KR3.out 3
  have z0 := blk_frozen KR3.out 0; have z1 := blk_frozen KR3.out 1; have z2 := blk_frozen KR3.out 2; have z3 := blk_frozen KR3.out 3
  have HX := Lib.hid xW
  clear h hE fz KR xW
  go_enter Try.func57, Try.ntmps57
  go_wp2_with fail
  (try rw [hW])
  clear hW
  go_wp2_with fail
  refine bodyPost_ret (results_cell_row (p := 6) rfl _ _ w.heap.size _ #[.bool true, .int .i64 er, .int .i64 nu, .slice none 0 0] (0, 0) _ rfl (row4 KR3.out _ _ _ _) Try.underlying52 (by rfl) (by kernel_rfl)) rfl ?_
  exact ⟨rfl, P.out.gb (put4_gb _ _ _ _ _ _) (fun i hi e => by have := HLT.out i hi; omega), ((GB.of_ext F HX.out).set gk _ _ (.inl HF.out)).trans (put4_gb _ _ _ _ _ _) (fun i e => .inr (by omega))⟩
theorem dend_any (w : World) (F : Nat → Prop) (gk n who : Nat) (d : DSt) (er nu : Int) (h : DAt w F gk n d) (hw : who < n) :
    Calls Try.prog 57 #[.pointer (some ⟨gk, who * 7, none⟩), .int .i64 er, .int .i64 nu] w (DRet w F gk n (d.put who { d.wk who with op := 0 }) true er nu []) := by
  refine (dend_nil w F gk n who d er nu h hw).mono ?_
  rintro e w' ⟨rfl, h1, h2⟩
  exact ⟨none, 0, 0, F, rfl, h1, h2, fun _ h => h, fun _ h => .inl h, World.ownsRow_nil _ _ _ _, fun q e => by cases e⟩
/-- DocStart: why it refuses -/
def dstartErr (d : DSt) (who op : Nat) : Int :=
  if (d.wk who).op ≠ 0 then 9 else if op = 2 ∧ (d.wk who).pinned = false then 7 else if op = 1 ∧ (d.wk who).pinned = true then 8 else if op = 3 ∧ 4096 ≤ (d.wk who).held.length then 10 else 0
set_option maxHeartbeats 1000000 in
set_option maxRecDepth 100000 in
theorem dstart_arg (w : World) (gk n : Nat) (who thing : Int) (op : Nat) (h : w.cell? ⟨gk + 1, 1, none⟩ = some (.slice (some ⟨gk, 0, none⟩) n n)) (hop : op < 256) (hb : ¬ (0 ≤ who ∧ who < (n : Int)) ∨ op = 0 ∨ 5 < op) :
    Calls Try.prog 24 #[.pointer (some ⟨gk + 1, 0, none⟩), .int .i64 who, .int .u8 (op : Int), .int .i64 thing] w fun e w' => e = .returned (.int .i64 1) ∧ w = w' := by
  by_cases hw : 0 ≤ who ∧ who < (n : Int)
  · obtain ⟨d, rfl⟩ : ∃ d : Nat, who = (d : Int) := ⟨who.toNat, by omega⟩
    have TH := Lib.hid (dthere_ok w gk n d h (by omega))
    have ho : op = 0 ∨ 5 < op := by
      rcases hb with h | h
      · exact absurd hw h
      · exact h
    clear hb
    by_cases h1 : (op : Int) < 1
    · clear ho
      go_enter Try.func24, Try.ntmps24
      go_wp2_with fail
      refine TH.out.mono ?_
      rintro e w1 ⟨rfl, rfl⟩
      go_wp2_with fail
      go_ret
      exact ⟨rfl, rfl⟩
    · have h2 : (5 : Int) < (op : Int) := by omega
      clear ho
      go_enter Try.func24, Try.ntmps24
      go_wp2_with fail
      refine TH.out.mono ?_
      rintro e w1 ⟨rfl, rfl⟩
      go_wp2_with fail
      go_ret
      exact ⟨rfl, rfl⟩
  · clear hb
    have TH := Lib.hid (dthere_bad w gk n who h hw)
    clear hw
    go_enter Try.func24, Try.ntmps24
    go_wp2_with fail
    refine TH.out.mono ?_
    rintro e w1 ⟨rfl, rfl⟩
    go_wp2_with fail
    go_ret
    exact ⟨rfl, rfl⟩
set_option maxHeartbeats 2000000 in
set_option maxRecDepth 100000 in
theorem dstart_err (w : World) (F : Nat → Prop) (gk n who op : Nat) (thing : Int) (d : DSt) (h : DAt w F gk n d) (hw : who < n) (h1 : 1 ≤ op) (h5 : op ≤ 5) (he : dstartErr d who op ≠ 0) :
    Calls Try.prog 24 #[.pointer (some ⟨gk + 1, 0, none⟩), .int .i64 (who : Int), .int .u8 (op : Int), .int .i64 thing] w fun e w' => e = .returned (.int .i64 (dstartErr d who op)) ∧ w = w' := by
  obtain ⟨B, c, -, x1, xo, -, -, -, xp, xh, -, -, -⟩ := h.cells hw
  have TH := Lib.hid (dthere_ok w gk n who x1 hw)
  have a1 : ¬ (op : Int) < 1 := by omega
  have a2 : ¬ (5 : Int) < (op : Int) := by omega
  unfold dstartErr at he ⊢
  obtain ⟨p, hp⟩ : ∃ p, (d.wk who).pinned = p := ⟨_, rfl⟩
  obtain ⟨l, hl⟩ : ∃ l, (d.wk who).held.length = l := ⟨_, rfl⟩
  obtain ⟨o, ho⟩ : ∃ o, (d.wk who).op = o := ⟨_, rfl⟩
  rw [hp] at xp he ⊢
  rw [hl] at xh he ⊢
  rw [ho] at xo he ⊢
  by_cases hi : o ≠ 0
  · rw [if_pos hi]
    have hq : ((o : Int) != 0) = true := by rw [bne_iff_ne]; omega
    clear h hi he hp hl ho
    go_enter Try.func24, Try.ntmps24
    go_wp2_with fail
    refine TH.out.mono ?_
    rintro e w1 ⟨rfl, rfl⟩
    go_wp2_with fail
    go_ret
    exact ⟨rfl, rfl⟩
  · rw [if_neg hi] at he ⊢
    have o0 : o = 0 := by omega
    subst o0
    clear h hi hp hl ho
    by_cases e2 : op = 2 ∧ p = false
    · rw [if_pos e2]
      obtain ⟨rfl, rfl⟩ := e2
      clear he
      go_enter Try.func24, Try.ntmps24
      go_wp2_with fail
      refine TH.out.mono ?_
      rintro e w1 ⟨rfl, rfl⟩
      go_wp2_with fail
      go_ret
      exact ⟨rfl, rfl⟩
    · rw [if_neg e2] at he ⊢
      by_cases e1 : op = 1 ∧ p = true
      · rw [if_pos e1]
        obtain ⟨rfl, rfl⟩ := e1
        clear he e2
        go_enter Try.func24, Try.ntmps24
        go_wp2_with fail
        refine TH.out.mono ?_
        rintro e w1 ⟨rfl, rfl⟩
        go_wp2_with fail
        go_ret
        exact ⟨rfl, rfl⟩
      · rw [if_neg e1] at he ⊢
        by_cases e3 : op = 3 ∧ 4096 ≤ l
        · rw [if_pos e3]
          obtain ⟨rfl, e3⟩ := e3
          have q3 : (4096 : Int) ≤ (l : Int) := by omega
          clear he e2 e1
          go_enter Try.func24, Try.ntmps24
          go_wp2_with fail
          refine TH.out.mono ?_
          rintro e w1 ⟨rfl, rfl⟩
          go_wp2_with fail
          go_ret
          exact ⟨rfl, rfl⟩
        · rw [if_neg e3] at he
          exact absurd rfl he
set_option maxHeartbeats 2000000 in
set_option maxRecDepth 100000 in
theorem dstart_ok (w : World) (F : Nat → Prop) (gk n who op : Nat) (thing : Int) (d : DSt) (h : DAt w F gk n d) (hw : who < n) (h1 : 1 ≤ op) (h5 : op ≤ 5) (he : dstartErr d who op = 0) :
    Calls Try.prog 24 #[.pointer (some ⟨gk + 1, 0, none⟩), .int .i64 (who : Int), .int .u8 (op : Int), .int .i64 thing] w fun e w' => e = .returned (.int .i64 0) ∧ DAt w' F gk n (d.put who { d.wk who with op := op, place := 0, thing := thing }) ∧ GB w w' F := by
  obtain ⟨B, c, -, x1, xo, c1, -, c3, xp, xh, -, fz, -⟩ := h.cells hw
  have TH := Lib.hid (dthere_ok w gk n who x1 hw)
  have a1 : ¬ (op : Int) < 1 := by omega
  have a2 : ¬ (5 : Int) < (op : Int) := by omega
  have f0 := fz (who * 7); have f1 := fz (who * 7 + 1); have f3 := fz (who * 7 + 3)
  have P1 := h.put1 hw 0 (.int .u8 (op : Int)) { d.wk who with op := op } (by omega) (by omega) (fun v => rfl) rfl
  have P2 := P1.put1 hw 1 (.int .i64 0) { d.wk who with op := op, place := 0 } (by omega) (by omega) (fun v => by rw [dput_self]; rfl) (by rw [dput_self])
  rw [dput_put] at P2
  have P3 := P2.put1 hw 3 (.int .i64 thing) { d.wk who with op := op, place := 0, thing := thing } (by omega) (by omega) (fun v => by rw [dput_self]; rfl) (by rw [dput_self])
  rw [dput_put] at P3
  have P := Lib.hid P3
  have HF := Lib.hid h.in.2
  unfold dstartErr at he
  obtain ⟨p, hp⟩ : ∃ p, Hid ((d.wk who).pinned = p) := ⟨_, rfl⟩
  obtain ⟨l, hl⟩ : ∃ l, Hid ((d.wk who).held.length = l) := ⟨_, rfl⟩
  rw [hp.out] at xp he
  rw [hl.out] at xh he
  have hi : ¬ (d.wk who).op ≠ 0 := fun e => by rw [if_pos e] at he; cases he
  rw [if_neg hi] at he
  have o0 : (d.wk who).op = 0 := by omega
  rw [o0] at xo
  have e2 : ¬ (op = 2 ∧ p = false) := fun e => by rw [if_pos e] at he; cases he
  rw [if_neg e2] at he
  have e1 : ¬ (op = 1 ∧ p = true) := fun e => by rw [if_pos e] at he; cases he
  rw [if_neg e1] at he
  have e3 : ¬ (op = 3 ∧ 4096 ≤ l) := fun e => by rw [if_pos e] at he; cases he
  have fin := Lib.hid ((((GB.refl w F).set gk (who * 7) (.int .u8 (op : Int)) (.inl HF.out)).set gk (who * 7 + 1) (.int .i64 0) (.inl HF.out)).set gk (who * 7 + 3) (.int .i64 thing) (.inl HF.out))
  clear h hi o0 he fz P1 P2 P3
  rcases (by omega : op = 1 ∨ op = 2 ∨ op = 3 ∨ op = 4 ∨ op = 5) with rfl | rfl | rfl | rfl | rfl
  · obtain rfl : p = false := by
      cases p with
      | false => rfl
      | true => exact absurd ⟨rfl, rfl⟩ e1
    clear e1 e2 e3
    go_enter Try.func24, Try.ntmps24
    go_wp2_with fail
    refine TH.out.mono ?_
    rintro e w1 ⟨rfl, rfl⟩
    go_wp2_with fail
    go_ret
    exact ⟨rfl, P.out, fin.out⟩
  · obtain rfl : p = true := by
      cases p with
      | true => rfl
      | false => exact absurd ⟨rfl, rfl⟩ e2
    clear e1 e2 e3
    go_enter Try.func24, Try.ntmps24
    go_wp2_with fail
    refine TH.out.mono ?_
    rintro e w1 ⟨rfl, rfl⟩
    go_wp2_with fail
    go_ret
    exact ⟨rfl, P.out, fin.out⟩
  · have q3 : ¬ (4096 : Int) ≤ (l : Int) := fun e => e3 ⟨rfl, by omega⟩
    clear e1 e2 e3
    go_enter Try.func24, Try.ntmps24
    go_wp2_with fail
    refine TH.out.mono ?_
    rintro e w1 ⟨rfl, rfl⟩
    go_wp2_with fail
    go_ret
    exact ⟨rfl, P.out, fin.out⟩
  · clear e1 e2 e3
    go_enter Try.func24, Try.ntmps24
    go_wp2_with fail
    refine TH.out.mono ?_
    rintro e w1 ⟨rfl, rfl⟩
    go_wp2_with fail
    go_ret
    exact ⟨rfl, P.out, fin.out⟩
  · clear e1 e2 e3
    go_enter Try.func24, Try.ntmps24
    go_wp2_with fail
    refine TH.out.mono ?_
    rintro e w1 ⟨rfl, rfl⟩
    go_wp2_with fail
    go_ret
    exact ⟨rfl, P.out, fin.out⟩
end Go.Proofs.Ytlgggeeflomelaa
