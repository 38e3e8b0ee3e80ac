/- epoch: Pending, Pinned, Epoch, Start. -/
import Derived.Test.YtlgggeeflomelaaEpI
namespace Go.Proofs.Ytlgggeeflomelaa
open Go.RowKit

theorem pendE_func {w : World} {C F : Nat → Prop} {gx who : Nat} {v : Value} {s : ECall} (h : PendE w C F gx who v s) (hs : s ≠ .idle) : ∃ f c, v = .func (.func f) #[] c := by
  cases s with
  | idle => exact absurd rfl hs
  | begun op thing => rcases h with ⟨_, p0, p1, h1, _⟩ | ⟨_, p0, p1, p2, p3, h1, _⟩ <;> exact ⟨_, _, h1⟩
  | pinS old e => obtain ⟨p0, p1, p2, p3, h1, _⟩ := h; exact ⟨_, _, h1⟩
  | pinL e => obtain ⟨p0, p1, p2, h1, _⟩ := h; exact ⟨_, _, h1⟩
  | look i e => obtain ⟨p0, p1, p2, p3, h1, _⟩ := h; exact ⟨_, _, h1⟩
theorem epend_bad (w : World) (gx n gw : Nat) (who : Int) (h : w.cell? ⟨gx, 1, none⟩ = some (.slice (some ⟨gw, 0, none⟩) n n)) (hb : ¬ (0 ≤ who ∧ who < (n : Int))) :
    Calls Try.prog 19 #[.pointer (some ⟨gx, 0, none⟩), .int .i64 who] w fun e w' => e = .returned (.bool false) ∧ w = w' := by
  have WK := Lib.hid (eworker_bad w gx n gw who h hb)
  clear hb
  go_enter Try.func19, Try.ntmps19
  go_wp2_with fail
  refine WK.out.mono ?_
  rintro e w1 ⟨rfl, rfl⟩
  go_wp2_with fail
  go_ret
  exact ⟨rfl, rfl⟩
theorem epinned_bad (w : World) (gx n gw : Nat) (who : Int) (h : w.cell? ⟨gx, 1, none⟩ = some (.slice (some ⟨gw, 0, none⟩) n n)) (hb : ¬ (0 ≤ who ∧ who < (n : Int))) :
    Calls Try.prog 15 #[.pointer (some ⟨gx, 0, none⟩), .int .i64 who] w fun e w' => e = .returned (.bool false) ∧ w = w' := by
  have WK := Lib.hid (eworker_bad w gx n gw who h hb)
  clear hb
  go_enter Try.func15, Try.ntmps15
  go_wp2_with fail
  refine WK.out.mono ?_
  rintro e w1 ⟨rfl, rfl⟩
  go_wp2_with fail
  go_ret
  exact ⟨rfl, rfl⟩
theorem eheld_bad (w : World) (gx n gw : Nat) (who : Int) (h : w.cell? ⟨gx, 1, none⟩ = some (.slice (some ⟨gw, 0, none⟩) n n)) (hb : ¬ (0 ≤ who ∧ who < (n : Int))) :
    Calls Try.prog 22 #[.pointer (some ⟨gx, 0, none⟩), .int .i64 who] w fun e w' => e = .returned (.slice none 0 0) ∧ w = w' := by
  have WK := Lib.hid (eworker_bad w gx n gw who h hb)
  clear hb
  go_enter Try.func22, Try.ntmps22
  go_wp2_with fail
  refine WK.out.mono ?_
  rintro e w1 ⟨rfl, rfl⟩
  go_wp2_with fail
  go_ret
  exact ⟨rfl, rfl⟩
set_option maxRecDepth 100000 in
theorem epend_any (w : World) (C F : Nat → Prop) (gx gm n who : Nat) (L : List AccE) (s : ESt) (h : EpAt w C F gx gm n L s) (hw : who < n) (b : Bool) (hb : (b = true ∧ (s.wk who).call ≠ .idle) ∨ (b = false ∧ (s.wk who).call = .idle)) :
    Calls Try.prog 19 #[.pointer (some ⟨gx, 0, none⟩), .int .i64 (who : Int)] w fun e w' => e = .returned (.bool b) ∧ w = w' := by
  obtain ⟨gw, f, B, c, x1, _, _, hgx, xf, _, _, _, pv, _⟩ := h.wk hw
  clear hgx
  have WK := Lib.hid (eworker_ok w gx n who gw x1 hw)
  have hq0 : ∀ (u : World), (binOp .neq 117 .nilFunc .nilFunc).run Try.prog u = .ok (.bool false) u := fun _ => rfl
  have hq1 : ∀ (f : FuncId) (c : Array Value) (u : World), (binOp .neq 117 (.func (.func f) #[] c) .nilFunc).run Try.prog u = .ok (.bool true) u := fun _ _ _ => rfl
  rcases hb with ⟨rfl, hb⟩ | ⟨rfl, hb⟩
  · obtain ⟨f1, c1, rfl⟩ := pendE_func pv hb
    clear pv h hb
    go_enter Try.func19, Try.ntmps19
    go_wp2_with fail
    refine WK.out.mono ?_
    rintro e w1 ⟨rfl, rfl⟩
    go_wp2_with fail
    go_ret
    exact ⟨rfl, rfl⟩
  · rw [hb] at pv
    obtain rfl : f = .nilFunc := pv
    clear h hb
    go_enter Try.func19, Try.ntmps19
    go_wp2_with fail
    refine WK.out.mono ?_
    rintro e w1 ⟨rfl, rfl⟩
    go_wp2_with fail
    go_ret
    exact ⟨rfl, rfl⟩
set_option maxRecDepth 100000 in
theorem epinned_any (w : World) (C F : Nat → Prop) (gx gm n who : Nat) (L : List AccE) (s : ESt) (h : EpAt w C F gx gm n L s) (hw : who < n) :
    Calls Try.prog 15 #[.pointer (some ⟨gx, 0, none⟩), .int .i64 (who : Int)] w fun e w' => e = .returned (.bool (s.wk who).pinned) ∧ w = w' := by
  obtain ⟨gw, f, B, c, x1, -, -, -, -, xp, -⟩ := h.wk hw
  have WK := Lib.hid (eworker_ok w gx n who gw x1 hw)
  obtain ⟨b, hb⟩ : ∃ b, (s.wk who).pinned = b := ⟨_, rfl⟩
  rw [hb] at xp ⊢
  clear h hb
  go_enter Try.func15, Try.ntmps15
  go_wp2_with fail
  refine WK.out.mono ?_
  rintro e w1 ⟨rfl, rfl⟩
  go_wp2_with fail
  go_ret
  exact ⟨rfl, rfl⟩
theorem eepoch_any (w : World) (C F : Nat → Prop) (gx gm n : Nat) (L : List AccE) (s : ESt) (h : EpAt w C F gx gm n L s) (he : s.ep ≤ 1000000) :
    Calls Try.prog 17 #[.pointer (some ⟨gx, 0, none⟩)] w fun e w' => e = .returned (.int .i64 (s.ep : Int)) ∧ w = w' := by
  have dc := epi_cells h
  have PK := Lib.hid h.peek0
  obtain ⟨ep, hep⟩ : ∃ ep, s.ep = ep := ⟨_, rfl⟩
  rw [hep] at PK he ⊢
  clear h hep
  go_enter Try.func17, Try.ntmps17
  go_wp2_with fail
  refine PK.out.mono ?_
  rintro e w1 ⟨rfl, rfl⟩
  go_wp2_with fail
  go_ret
  exact ⟨rfl, rfl⟩
def isIdle : ECall → Bool
  | .idle => true
  | _ => false
theorem idle_iff (c : ECall) : isIdle c = true ↔ c = .idle := by
  cases c with
  | idle => exact ⟨fun _ => rfl, fun _ => rfl⟩
  | _ => exact ⟨(fun h => by cases h), (fun h => by cases h)⟩
/-- Start: why it refuses -/
def startErr (s : ESt) (who op : Nat) : Int :=
  if isIdle (s.wk who).call = false then 9 else if op = 2 ∧ (s.wk who).pinned = false then 7 else if op = 1 ∧ (s.wk who).pinned = true then 8 else if op = 3 ∧ (s.wk who).held.length = 4096 then 10 else 0
set_option maxHeartbeats 1000000 in
set_option maxRecDepth 100000 in
theorem estart_arg (w : World) (gx n gw : Nat) (who thing : Int) (op : Nat) (h : w.cell? ⟨gx, 1, none⟩ = some (.slice (some ⟨gw, 0, none⟩) n n)) (hop : op < 256) (hb : ¬ (0 ≤ who ∧ who < (n : Int)) ∨ op = 0 ∨ 5 < op) :
    Calls Try.prog 16 #[.pointer (some ⟨gx, 0, none⟩), .int .i64 who, .int .u8 (op : Int), .int .i64 thing] w fun e w' => e = .returned (.int .i64 1) ∧ w = w' := by
  by_cases hw : 0 ≤ who ∧ who < (n : Int)
  · obtain ⟨d, rfl⟩ : ∃ d : Nat, who = (d : Int) := ⟨who.toNat, by omega⟩
    have WK := Lib.hid (eworker_ok w gx n d gw h (by omega))
    have ho : op = 0 ∨ 5 < op := by
      rcases hb with h | h
      · exact absurd hw h
      · exact h
    clear hb
    by_cases h1 : (op : Int) < 1
    · clear ho
      go_enter Try.func16, Try.ntmps16
      go_wp2_with fail
      refine WK.out.mono ?_
      rintro e w1 ⟨rfl, rfl⟩
      go_wp2_with fail
      go_ret
      exact ⟨rfl, rfl⟩
    · have h2 : (5 : Int) < (op : Int) := by omega
      clear ho
      go_enter Try.func16, Try.ntmps16
      go_wp2_with fail
      refine WK.out.mono ?_
      rintro e w1 ⟨rfl, rfl⟩
      go_wp2_with fail
      go_ret
      exact ⟨rfl, rfl⟩
  · clear hb
    have WK := Lib.hid (eworker_bad w gx n gw who h hw)
    clear hw
    go_enter Try.func16, Try.ntmps16
    go_wp2_with fail
    refine WK.out.mono ?_
    rintro e w1 ⟨rfl, rfl⟩
    go_wp2_with fail
    go_ret
    exact ⟨rfl, rfl⟩
set_option maxHeartbeats 2000000 in
set_option maxRecDepth 100000 in
theorem estart_err (w : World) (C F : Nat → Prop) (gx gm n who op : Nat) (thing : Int) (L : List AccE) (s : ESt) (h : EpAt w C F gx gm n L s) (hw : who < n) (h1 : 1 ≤ op) (h5 : op ≤ 5) (he : startErr s who op ≠ 0) :
    Calls Try.prog 16 #[.pointer (some ⟨gx, 0, none⟩), .int .i64 (who : Int), .int .u8 (op : Int), .int .i64 thing] w fun e w' => e = .returned (.int .i64 (startErr s who op)) ∧ w = w' := by
  obtain ⟨gw, f, B, c, x1, _, _, hgx, xf, xp, xh, _, pv, _⟩ := h.wk hw
  clear hgx
  have WK := Lib.hid (eworker_ok w gx n who gw x1 hw)
  have hq0 : ∀ (u : World), (binOp .neq 117 .nilFunc .nilFunc).run Try.prog u = .ok (.bool false) u := fun _ => rfl
  have hq1 : ∀ (f : FuncId) (c : Array Value) (u : World), (binOp .neq 117 (.func (.func f) #[] c) .nilFunc).run Try.prog u = .ok (.bool true) u := fun _ _ _ => rfl
  have a1 : ¬ (op : Int) < 1 := by omega
  have a2 : ¬ (5 : Int) < (op : Int) := by omega
  unfold startErr at he ⊢
  obtain ⟨p, hp⟩ : ∃ p, (s.wk who).pinned = p := ⟨_, rfl⟩
  obtain ⟨l, hl⟩ : ∃ l, (s.wk who).held.length = l := ⟨_, rfl⟩
  rw [hp] at xp he ⊢
  rw [hl] at xh he ⊢
  by_cases hi : isIdle (s.wk who).call = false
  · rw [if_pos hi]
    obtain ⟨f1, c1, rfl⟩ := pendE_func pv (fun e => by rw [(idle_iff _).2 e] at hi; cases hi)
    clear pv h hi he hp hl
    go_enter Try.func16, Try.ntmps16
    go_wp2_with fail
    refine WK.out.mono ?_
    rintro e w1 ⟨rfl, rfl⟩
    go_wp2_with fail
    go_ret
    exact ⟨rfl, rfl⟩
  · have hidl : (s.wk who).call = .idle := (idle_iff _).1 (by simpa using hi)
    rw [if_neg hi] at he ⊢
    rw [hidl] at pv
    obtain rfl : f = .nilFunc := pv
    clear h hi hidl hp hl
    by_cases e2 : op = 2 ∧ p = false
    · rw [if_pos e2]
      obtain ⟨rfl, rfl⟩ := e2
      clear he
      go_enter Try.func16, Try.ntmps16
      go_wp2_with fail
      refine WK.out.mono ?_
      rintro e w1 ⟨rfl, rfl⟩
      go_wp2_with fail
      go_ret
      exact ⟨rfl, rfl⟩
    · rw [if_neg e2] at he ⊢
      by_cases e1 : op = 1 ∧ p = true
      · rw [if_pos e1]
        obtain ⟨rfl, rfl⟩ := e1
        clear he e2
        go_enter Try.func16, Try.ntmps16
        go_wp2_with fail
        refine WK.out.mono ?_
        rintro e w1 ⟨rfl, rfl⟩
        go_wp2_with fail
        go_ret
        exact ⟨rfl, rfl⟩
      · rw [if_neg e1] at he ⊢
        by_cases e3 : op = 3 ∧ l = 4096
        · rw [if_pos e3]
          obtain ⟨rfl, rfl⟩ := e3
          clear he e2 e1
          go_enter Try.func16, Try.ntmps16
          go_wp2_with fail
          refine WK.out.mono ?_
          rintro e w1 ⟨rfl, rfl⟩
          go_wp2_with fail
          go_ret
          exact ⟨rfl, rfl⟩
        · rw [if_neg e3] at he
          exact absurd rfl he
set_option maxHeartbeats 2000000 in
set_option maxRecDepth 100000 in
theorem estart_ok (w : World) (C F : Nat → Prop) (gx gm n who op : Nat) (thing : Int) (L : List AccE) (s : ESt) (h : EpAt w C F gx gm n L s) (hw : who < n) (h1 : 1 ≤ op) (h5 : op ≤ 5) (he : startErr s who op = 0) :
    Calls Try.prog 16 #[.pointer (some ⟨gx, 0, none⟩), .int .i64 (who : Int), .int .u8 (op : Int), .int .i64 thing] w fun e w' => e = .returned (.int .i64 0) ∧ EpGo w C F gx gm n L (s.put who { s.wk who with call := .begun op thing }) w' := by
  have hW0 := h.wk hw
  obtain ⟨gw, f, B, c, x1, _, hCw, hgx, xf, xp, xh, xfr, pv, _⟩ := h.wk hw
  clear hgx
  have WK := Lib.hid (eworker_ok w gx n who gw x1 hw)
  have hq0 : ∀ (u : World), (binOp .neq 117 .nilFunc .nilFunc).run Try.prog u = .ok (.bool false) u := fun _ => rfl
  have a1 : ¬ (op : Int) < 1 := by omega
  have a2 : ¬ (5 : Int) < (op : Int) := by omega
  have hfz := xfr (who * 3)
  have BG := Lib.hid (ebegin_any w gx who op thing)
  have H := Lib.hid h
  unfold startErr at he
  obtain ⟨p, hp⟩ : ∃ p, Hid ((s.wk who).pinned = p) := ⟨_, rfl⟩
  obtain ⟨l, hl⟩ : ∃ l, Hid ((s.wk who).held.length = l) := ⟨_, rfl⟩
  rw [hp.out] at xp he
  rw [hl.out] at xh he
  have hi : ¬ isIdle (s.wk who).call = false := fun e => by rw [if_pos e] at he; cases he
  have hidl : (s.wk who).call = .idle := (idle_iff _).1 (by simpa using hi)
  rw [if_neg hi] at he
  rw [hidl] at pv
  obtain rfl : f = .nilFunc := pv
  have e2 : ¬ (op = 2 ∧ p = false) := fun e => by rw [if_pos e] at he; cases he
  rw [if_neg e2] at he
  have e1 : ¬ (op = 1 ∧ p = true) := fun e => by rw [if_pos e] at he; cases he
  rw [if_neg e1] at he
  have e3 : ¬ (op = 3 ∧ l = 4096) := fun e => by rw [if_pos e] at he; cases he
  clear h hi hidl he xfr hW0
  have fin : ∀ (e : Ending) (w1 : World) (v : Value), Ext w w1 → (∀ C F : Nat → Prop, (∀ i, C i → i < w.heap.size) → PendE w1 C (fun i => F i ∨ (w.heap.size ≤ i ∧ i < w1.heap.size)) gx who v (.begun op thing)) → EpGo w C F gx gm n L (s.put who { s.wk who with call := .begun op thing }) (w1.setCell ⟨gw, who * 3, none⟩ v) := fun e w1 v x1' hp => by
    have hlt := H.out.lt
    have hE1 := (H.out.ext x1').more (F' := fun i => F i ∨ (w.heap.size ≤ i ∧ i < w1.heap.size)) (fun i hi => .inl hi) (fun i hi => hi.elim (fun hi => Nat.lt_of_lt_of_le (hlt i hi) x1'.size) (fun hi => hi.2))
    obtain ⟨gw', f', B', c', y1, _, _, _, _, _, _, _, _, _, _, hput, _⟩ := hE1.wk hw
    obtain rfl : gw' = gw := by
      have e := y1.symm.trans (ext_cell x1' x1)
      simp at e
      exact e
    exact EpGo.trans (GB.of_ext C x1') (fun i hi => .inl hi) (fun i hi => .inl hi) (fun i hi => hi.imp id (fun h => h.1)) (hput v _ (hp C F (fun i hi => hlt i (H.out.sub i hi))))
  have FIN := Lib.hid fin
  clear fin
  rcases (by omega : op = 1 ∨ op = 2 ∨ op = 3 ∨ (op ≠ 1 ∧ op ≠ 2 ∧ op ≠ 3)) with ho | ho | ho | ho
  · have hpf : p = false := by cases p with
      | false => rfl
      | true => exact absurd ⟨ho, rfl⟩ e1
    subst hpf
    have q1 : ((op : Int) == 1) = true := by rw [beq_iff_eq]; omega
    have q2 : ((op : Int) == 2) = false := by rw [beq_eq_false_iff_ne]; omega
    have q3 : ((op : Int) == 3) = false := by rw [beq_eq_false_iff_ne]; omega
    clear ho
    clear e2 e1 e3
    go_enter Try.func16, Try.ntmps16
    go_wp2_with fail
    refine WK.out.mono ?_
    rintro e w1 ⟨rfl, rfl⟩
    go_wp2_with fail
    refine BG.out.mono ?_
    rintro e w1 ⟨v, rfl, _, ⟨f9, c9, rfl⟩, x1', hp⟩
    have FN := Lib.hid (FIN.out (.returned (.int .i64 0)) w1 _ x1' hp)
    have yf := ext_cell x1' xf
    have yz := frz_ext x1' xf hfz
    clear hp
    go_wp2_with fail
    go_ret
    exact ⟨rfl, FN.out⟩
  · have hpf : p = true := by cases p with
      | true => rfl
      | false => exact absurd ⟨ho, rfl⟩ e2
    subst hpf
    have q1 : ((op : Int) == 1) = false := by rw [beq_eq_false_iff_ne]; omega
    have q2 : ((op : Int) == 2) = true := by rw [beq_iff_eq]; omega
    have q3 : ((op : Int) == 3) = false := by rw [beq_eq_false_iff_ne]; omega
    clear ho
    clear e2 e1 e3
    go_enter Try.func16, Try.ntmps16
    go_wp2_with fail
    refine WK.out.mono ?_
    rintro e w1 ⟨rfl, rfl⟩
    go_wp2_with fail
    refine BG.out.mono ?_
    rintro e w1 ⟨v, rfl, _, ⟨f9, c9, rfl⟩, x1', hp⟩
    have FN := Lib.hid (FIN.out (.returned (.int .i64 0)) w1 _ x1' hp)
    have yf := ext_cell x1' xf
    have yz := frz_ext x1' xf hfz
    clear hp
    go_wp2_with fail
    go_ret
    exact ⟨rfl, FN.out⟩
  · have ql : ((l : Int) == 4096) = false := by rw [beq_eq_false_iff_ne]; intro h; exact e3 ⟨ho, by omega⟩
    have q1 : ((op : Int) == 1) = false := by rw [beq_eq_false_iff_ne]; omega
    have q2 : ((op : Int) == 2) = false := by rw [beq_eq_false_iff_ne]; omega
    have q3 : ((op : Int) == 3) = true := by rw [beq_iff_eq]; omega
    clear ho
    clear e2 e1 e3
    go_enter Try.func16, Try.ntmps16
    go_wp2_with fail
    refine WK.out.mono ?_
    rintro e w1 ⟨rfl, rfl⟩
    go_wp2_with fail
    refine BG.out.mono ?_
    rintro e w1 ⟨v, rfl, _, ⟨f9, c9, rfl⟩, x1', hp⟩
    have FN := Lib.hid (FIN.out (.returned (.int .i64 0)) w1 _ x1' hp)
    have yf := ext_cell x1' xf
    have yz := frz_ext x1' xf hfz
    clear hp
    go_wp2_with fail
    go_ret
    exact ⟨rfl, FN.out⟩
  · have q1 : ((op : Int) == 1) = false := by rw [beq_eq_false_iff_ne]; omega
    have q2 : ((op : Int) == 2) = false := by rw [beq_eq_false_iff_ne]; omega
    have q3 : ((op : Int) == 3) = false := by rw [beq_eq_false_iff_ne]; omega
    clear ho
    clear e2 e1 e3
    go_enter Try.func16, Try.ntmps16
    go_wp2_with fail
    refine WK.out.mono ?_
    rintro e w1 ⟨rfl, rfl⟩
    go_wp2_with fail
    refine BG.out.mono ?_
    rintro e w1 ⟨v, rfl, _, ⟨f9, c9, rfl⟩, x1', hp⟩
    have FN := Lib.hid (FIN.out (.returned (.int .i64 0)) w1 _ x1' hp)
    have yf := ext_cell x1' xf
    have yz := frz_ext x1' xf hfz
    clear hp
    go_wp2_with fail
    go_ret
    exact ⟨rfl, FN.out⟩
end Go.Proofs.Ytlgggeeflomelaa
