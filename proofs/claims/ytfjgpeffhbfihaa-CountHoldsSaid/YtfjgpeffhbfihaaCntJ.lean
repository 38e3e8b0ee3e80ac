/- count: a counter that the call made; the document's first example. -/
import Derived.Test.YtfjgpeffhbfihaaCntI
namespace Go.Proofs.Ytfjgpeffhbfihaa
open Go.RowKit

def minus1 : Nat := 18446744073709551615
theorem addW_up {n lim : Nat} (h : n < lim) (hl : (lim : Int) ≤ 4611686018427387903) : addW n 1 = n + 1 := by unfold addW; omega
theorem addW_down {n : Nat} (h : 0 < n) (hl : (n : Int) ≤ 4611686018427387903) : addW n minus1 = n - 1 := by unfold addW minus1; omega
/-- the calls that Start begins, and what becomes of them -/
def GoodS (lim : Nat) : CallS → Prop
  | .load stop e b => (stop = lim ∧ e = 10 ∧ b = 1) ∨ (stop = 0 ∧ e = 5 ∧ b = minus1)
  | .swap n stop e b => n ≤ lim ∧ ((stop = lim ∧ e = 10 ∧ b = 1 ∧ n ≠ lim) ∨ (stop = 0 ∧ e = 5 ∧ b = minus1 ∧ n ≠ 0))
  | _ => True
theorem good_start (lim op : Nat) : GoodS lim (startS lim op) := by
  unfold startS
  split
  · exact .inl ⟨rfl, rfl, rfl⟩
  · split
    · exact .inr ⟨rfl, rfl, rfl⟩
    · trivial
theorem good_next {lim val : Nat} {s : CallS} (h : GoodS lim s) (hv : val ≤ lim) : GoodS lim (stNext val s) := by
  cases s with
  | idle => trivial
  | read => trivial
  | load stop e b =>
    by_cases hs : val = stop
    · have e1 : stNext val (.load stop e b) = .idle := if_pos hs
      rw [e1]; trivial
    · have e1 : stNext val (.load stop e b) = .swap val stop e b := if_neg hs
      rw [e1]
      refine ⟨hv, ?_⟩
      rcases h with ⟨h1, h2, h3⟩ | ⟨h1, h2, h3⟩
      · exact .inl ⟨h1, h2, h3, by omega⟩
      · exact .inr ⟨h1, h2, h3, by omega⟩
  | swap n stop e b =>
    by_cases hs : val = n
    · have e1 : stNext val (.swap n stop e b) = .idle := if_pos hs
      rw [e1]; trivial
    · have e1 : stNext val (.swap n stop e b) = .load stop e b := if_neg hs
      rw [e1]
      rcases h.2 with ⟨h1, h2, h3, _⟩ | ⟨h1, h2, h3, _⟩
      · exact .inl ⟨h1, h2, h3⟩
      · exact .inr ⟨h1, h2, h3⟩
theorem good_val {lim val : Nat} {s : CallS} (h : GoodS lim s) (hv : val ≤ lim) (hl : (lim : Int) ≤ 4611686018427387903) : stVal val s ≤ lim := by
  cases s with
  | swap n stop e b =>
    by_cases hs : val = n
    · have e1 : stVal val (.swap n stop e b) = addW n b := if_pos hs
      rw [e1]
      rcases h.2 with ⟨h1, h2, rfl, h4⟩ | ⟨h1, h2, rfl, h4⟩
      · rw [addW_up (lim := lim) (by have := h.1; omega) hl]
        have := h.1
        omega
      · rw [addW_down (by omega) (by have := h.1; omega)]
        have := h.1
        omega
    · have e1 : stVal val (.swap n stop e b) = val := if_neg hs
      rw [e1]; exact hv
  | _ => exact hv
theorem good_add {lim val : Nat} {s : CallS} (h : GoodS lim s) (hl : (lim : Int) ≤ 4611686018427387903) : ∀ n st e b, s = .swap n st e b → val = n → ((addW n b : Nat) : Int) ≤ 9223372036854775807 := by
  rintro n st e b rfl _
  rcases h.2 with ⟨h1, h2, rfl, h4⟩ | ⟨h1, h2, rfl, h4⟩
  · rw [addW_up (lim := lim) (by have := h.1; omega) hl]
    have := h.1
    omega
  · rw [addW_down (by omega) (by have := h.1; omega)]
    have := h.1
    omega
/-- a counter that this call made; k accesses were done; F: its blocks -/
def CntIn (w0 : World) (F : Nat → Prop) (gc lim val k : Nat) (S : Nat → CallS) (w : World) : Prop :=
  ∃ gm L, CntAt w F gc gm lim val L S ∧ L.length = k ∧ Ext w0 w ∧ (∀ i, F i → w0.heap.size ≤ i) ∧ (∀ i, GoodS lim (S i)) ∧ val ≤ lim ∧ (lim : Int) ≤ 4611686018427387903
theorem CntIn.ext {w0 w w' : World} {F : Nat → Prop} {gc lim val k : Nat} {S : Nat → CallS} (h : CntIn w0 F gc lim val k S w) (x : Ext w w') : CntIn w0 F gc lim val k S w' := by
  obtain ⟨gm, L, h1, h2, h3, h4, h5, h6, h7⟩ := h
  exact ⟨gm, L, h1.ext x, h2, h3.trans x, h4, h5, h6, h7⟩
theorem CntIn.out {w0 w : World} {F : Nat → Prop} {gc lim val k : Nat} {S : Nat → CallS} (h : CntIn w0 F gc lim val k S w) : Ext w0 w := by
  obtain ⟨gm, L, h1, h2, h3, _⟩ := h
  exact h3
theorem CntIn.far {w0 w w' : World} {F : Nat → Prop} {gc lim val k g : Nat} {S : Nat → CallS} {o : Obj} (h : CntIn w0 F gc lim val k S w) (kk : GB w w' (· = g)) (hF : ¬ F g) (hg : w.heap[g]? = some o) (ho : ∀ u t, o ≠ .cells #[u] t (0, 0)) (hw : w0.heap.size ≤ g) : CntIn w0 F gc lim val k S w' := by
  obtain ⟨gm, L, h1, h2, h3, h4, h5, h6, h7⟩ := h
  exact ⟨gm, L, h1.far kk hF hg ho, h2, kk.to_ext h3 (fun i e => e ▸ hw), h4, h5, h6, h7⟩
theorem CntIn.lt {w0 w : World} {F : Nat → Prop} {gc lim val k : Nat} {S : Nat → CallS} (h : CntIn w0 F gc lim val k S w) : ∀ i, F i → i < w.heap.size := by
  obtain ⟨gm, L, h1, _⟩ := h
  exact h1.lt
theorem CntIn.le {w0 w : World} {F : Nat → Prop} {gc lim val k : Nat} {S : Nat → CallS} (h : CntIn w0 F gc lim val k S w) : val ≤ lim := by
  obtain ⟨gm, L, _, _, _, _, _, h6, _⟩ := h
  exact h6
theorem CntIn.good {w0 w : World} {F : Nat → Prop} {gc lim val k : Nat} {S : Nat → CallS} (h : CntIn w0 F gc lim val k S w) : ∀ i, GoodS lim (S i) := by
  obtain ⟨gm, L, _, _, _, _, h5, _⟩ := h
  exact h5
/-- it went on; what is in no block of its own is as it was -/
def CinGo (w0 w : World) (F : Nat → Prop) (gc lim val k : Nat) (S : Nat → CallS) (w' : World) : Prop :=
  ∃ F', CntIn w0 F' gc lim val k S w' ∧ GB w w' F ∧ ∀ i, F' i → F i ∨ w.heap.size ≤ i
theorem CinGo.blk {w0 w w' : World} {F : Nat → Prop} {gc lim val k g : Nat} {S : Nat → CallS} {o : Obj} (h : CinGo w0 w F gc lim val k S w') (hb : w.heap[g]? = some o) (hg : ¬ F g) : ∃ F', CntIn w0 F' gc lim val k S w' ∧ w'.heap[g]? = some o ∧ ¬ F' g := by
  obtain ⟨F', h1, h2, h3⟩ := h
  refine ⟨F', h1, h2.blk hb hg, fun e => ?_⟩
  rcases h3 g e with h | h
  · exact hg h
  · have := blk_lt hb; omega
theorem CinGo.any {w0 w w' : World} {F : Nat → Prop} {gc lim val k : Nat} {S : Nat → CallS} (h : CinGo w0 w F gc lim val k S w') : ∃ F', CntIn w0 F' gc lim val k S w' := by
  obtain ⟨F', h1, _⟩ := h
  exact ⟨F', h1⟩
theorem cin_go {w0 w w' : World} {F : Nat → Prop} {gc gm lim val k : Nat} {L : List AccE} {S : Nat → CallS} (g : CntGo w F gc gm lim val L S w') (hl : L.length = k) (x : Ext w0 w) (hf : ∀ i, F i → w0.heap.size ≤ i) (hg : ∀ i, GoodS lim (S i)) (hv : val ≤ lim) (hm : (lim : Int) ≤ 4611686018427387903) : CinGo w0 w F gc lim val k S w' := by
  obtain ⟨F', h1, h2, h3⟩ := g
  refine ⟨F', ⟨gm, L, h1, hl, h2.to_ext x hf, fun i hi => ?_, hg, hv, hm⟩, h2, h3⟩
  rcases h3 i hi with h | h
  · exact hf i h
  · exact Nat.le_trans x.size h
theorem updS_self (S : Nat → CallS) (who : Nat) (s : CallS) : updS S who s who = s := if_pos rfl
theorem updS_other (S : Nat → CallS) {who i : Nat} (s : CallS) (h : i ≠ who) : updS S who s i = S i := if_neg h
theorem good_upd {lim : Nat} {S : Nat → CallS} {who : Nat} {s : CallS} (h : ∀ i, GoodS lim (S i)) (hs : GoodS lim s) : ∀ i, GoodS lim (updS S who s i) := fun i => by
  by_cases e : i = who
  · subst e; rw [updS_self]; exact hs
  · rw [updS_other S s e]; exact h i
theorem cin_new (lim : Nat) (w0 w : World) (x : Ext w0 w) (h : (lim : Int) ≤ 4611686018427387903) : Calls Try.prog 25 #[.int .i64 (lim : Int)] w fun e w' => ∃ gc F, e = .returned (.tuple #[.pointer (some ⟨gc, 0, none⟩), .int .i64 0]) ∧ CntIn w0 F gc lim 0 0 (fun _ => .idle) w' ∧ w0.heap.size ≤ gc := by
  refine (cnew_ok lim w h).mono ?_
  rintro e w' ⟨gc, gm, F, rfl, h1, h2, h3, h4⟩
  exact ⟨gc, F, rfl, ⟨gm, [], h1, rfl, x.trans h2, fun i hi => Nat.le_trans x.size (h3 i hi), fun _ => trivial, Nat.zero_le _, h⟩, Nat.le_trans x.size h4⟩
theorem cin_start (w0 w : World) (F : Nat → Prop) (gc lim val k who op : Nat) (S : Nat → CallS) (h : CntIn w0 F gc lim val k S w) (hw : who < 64) (hs : S who = .idle) (h1 : 1 ≤ op) (h3 : op ≤ 3) :
    Calls Try.prog 27 #[.pointer (some ⟨gc, 0, none⟩), .int .i64 (who : Int), .int .u8 (op : Int)] w fun e w' => e = .returned (.int .i64 0) ∧ CinGo w0 w F gc lim val k (updS S who (startS lim op)) w' := by
  obtain ⟨gm, L, c1, c2, c3, c4, c5, c6, c7⟩ := h
  have fin : ∀ (s : CallS), GoodS lim s → ∀ e w', (e = Ending.returned (.int .i64 0) ∧ CntGo w F gc gm lim val L (updS S who s) w') → e = Ending.returned (.int .i64 0) ∧ CinGo w0 w F gc lim val k (updS S who s) w' := fun s hg e w' ⟨he, hc⟩ => ⟨he, cin_go hc c2 c3 c4 (good_upd c5 hg) c6 c7⟩
  rcases (by omega : op = 1 ∨ op = 2 ∨ op = 3) with rfl | rfl | rfl
  · exact (cstart1 w F gc gm lim val who L S c1 hw hs).mono (fin _ (.inl ⟨rfl, rfl, rfl⟩))
  · exact (cstart2 w F gc gm lim val who L S c1 hw hs).mono (fin _ (.inr ⟨rfl, rfl, rfl⟩))
  · exact (cstart3 w F gc gm lim val who L S c1 hw hs).mono (fin _ trivial)
theorem cin_busy (w0 w : World) (F : Nat → Prop) (gc lim val k who op : Nat) (S : Nat → CallS) (h : CntIn w0 F gc lim val k S w) (hw : who < 64) (hs : S who ≠ .idle) (h1 : 1 ≤ op) (h3 : op ≤ 3) :
    Calls Try.prog 27 #[.pointer (some ⟨gc, 0, none⟩), .int .i64 (who : Int), .int .u8 (op : Int)] w fun e w' => e = .returned (.int .i64 9) ∧ CntIn w0 F gc lim val k S w' ∧ Ext w w' := by
  have hi := h
  obtain ⟨gm, L, c1, _⟩ := h
  refine (cstart_busy w F gc gm lim val who op L S c1 hw h1 h3 hs).mono ?_
  rintro e w' ⟨rfl, x⟩
  exact ⟨rfl, hi.ext x, x⟩
theorem cin_step (w0 w : World) (F : Nat → Prop) (gc lim val k who : Nat) (S : Nat → CallS) (h : CntIn w0 F gc lim val k S w) (hw : who < 64) (hs : S who ≠ .idle) (hk : k ≤ 100000) :
    Calls Try.prog 29 #[.pointer (some ⟨gc, 0, none⟩), .int .i64 (who : Int)] w fun e w' => e = .returned (.tuple #[.agg #[.bool (stDone val (S who)), .int .i64 (stErr val (S who)), .int .i64 (stNum val (S who))], .int .i64 0]) ∧ CinGo w0 w F gc lim (stVal val (S who)) (k + 1) (updS S who (stNext val (S who))) w' := by
  obtain ⟨gm, L, c1, c2, c3, c4, c5, c6, c7⟩ := h
  refine (cstep_any w F gc gm lim val who L S c1 hw hs (by omega) (by omega) (good_add (c5 who) c7)).mono ?_
  rintro e w' ⟨rfl, g⟩
  exact ⟨rfl, cin_go g (by simp [c2]) c3 c4 (good_upd c5 (good_next (c5 who) c6)) (good_val (c5 who) c6 c7) c7⟩
theorem cin_idle (w0 w : World) (F : Nat → Prop) (gc lim val k who : Nat) (S : Nat → CallS) (h : CntIn w0 F gc lim val k S w) (hw : who < 64) (hs : S who = .idle) :
    Calls Try.prog 29 #[.pointer (some ⟨gc, 0, none⟩), .int .i64 (who : Int)] w fun e w' => e = .returned (.tuple #[.agg #[.bool false, .int .i64 0, .int .i64 0], .int .i64 7]) ∧ CntIn w0 F gc lim val k S w' ∧ Ext w w' := by
  have hi := h
  obtain ⟨gm, L, c1, _⟩ := h
  refine (cstep_idle w F gc gm lim val who L S c1 hw hs).mono ?_
  rintro e w' ⟨rfl, x⟩
  exact ⟨rfl, hi.ext x, x⟩
theorem cin_pend (w0 w : World) (F : Nat → Prop) (gc lim val k who : Nat) (S : Nat → CallS) (h : CntIn w0 F gc lim val k S w) (hw : who < 64) (b : Bool) (hb : (b = true ∧ S who ≠ .idle) ∨ (b = false ∧ S who = .idle)) :
    Calls Try.prog 32 #[.pointer (some ⟨gc, 0, none⟩), .int .i64 (who : Int)] w fun e w' => e = .returned (.bool b) ∧ w = w' := by
  obtain ⟨gm, L, c1, _⟩ := h
  rcases hb with ⟨rfl, hb⟩ | ⟨rfl, hb⟩
  · exact cpend_busy w F gc gm lim val who L S c1 hw hb
  · exact cpend_idle w F gc gm lim val who L S c1 hw hb
theorem cin_value (w0 w : World) (F : Nat → Prop) (gc lim val k : Nat) (S : Nat → CallS) (h : CntIn w0 F gc lim val k S w) :
    Calls Try.prog 34 #[.pointer (some ⟨gc, 0, none⟩)] w fun e w' => e = .returned (.int .i64 (val : Int)) ∧ w = w' := by
  obtain ⟨gm, L, c1, c2, c3, c4, c5, c6, c7⟩ := h
  exact cvalue_any w F gc gm lim val L S c1 (by omega)
theorem cin_steps (w0 w : World) (F : Nat → Prop) (gc lim val k : Nat) (S : Nat → CallS) (h : CntIn w0 F gc lim val k S w) :
    Calls Try.prog 35 #[.pointer (some ⟨gc, 0, none⟩)] w fun e w' => e = .returned (.int .i64 (k : Int)) ∧ w = w' := by
  obtain ⟨gm, L, c1, rfl, _⟩ := h
  exact csteps_any w F gc gm lim val L S c1
set_option maxHeartbeats 2000000 in
set_option maxRecDepth 100000 in
theorem cntAwake (w : World) : Calls Try.prog 24 #[] w fun e w' => e = .returned (.bool true) ∧ Ext w w' := by
  go_enter Try.func24, Try.ntmps24
  go_wp2_with fail
  refine (cin_new 1 w w (Ext.refl w) (by omega)).mono ?_
  rintro e w1 ⟨gc, F1, rfl, h1, _⟩
  have H1 := Lib.hid h1
  clear h1
  go_wp2_with fail
  refine (cin_start w w1 F1 gc 1 0 0 0 1 _ H1.out (by omega) rfl (by omega) (by omega)).mono ?_
  rintro e w2 ⟨rfl, h2⟩
  obtain ⟨F2, h2⟩ := h2.any
  have H2 := Lib.hid h2
  clear h2
  go_wp2_with fail
  refine (cin_busy w w2 F2 gc 1 0 0 0 1 _ H2.out (by omega) (by rw [updS_self]; intro e; cases e) (by omega) (by omega)).mono ?_
  rintro e w3 ⟨rfl, h3, _⟩
  have H3 := Lib.hid h3
  clear h3
  go_wp2_with fail
  have ST3 := cin_step w w3 F2 gc 1 0 0 0 _ H3.out (by omega) (by rw [updS_self]; intro e; cases e) (by omega)
  rw [updS_self] at ST3
  have ST := Lib.hid (show Calls Try.prog 29 #[.pointer (some ⟨gc, 0, none⟩), .int .i64 0] w3 fun e w' => e = .returned (.tuple #[.agg #[.bool false, .int .i64 0, .int .i64 0], .int .i64 0]) ∧ CinGo w w3 F2 gc 1 0 1 (updS (updS (fun _ => .idle) 0 (startS 1 1)) 0 (.swap 0 1 10 1)) w' from ST3)
  clear ST3
  refine ST.out.mono ?_
  rintro e w4 ⟨rfl, h4⟩
  obtain ⟨F4, h4⟩ := h4.any
  have H4 := Lib.hid h4
  have KB := Lib.hid (blk_new w4 (.cells #[.bool false, .int .i64 0, .int .i64 0] 71 (0, 0)))
  have nb : ¬ F4 w4.heap.size := fun e => Nat.lt_irrefl _ (h4.lt _ e)
  clear h4
  go_wp2_with fail
  have ST4 := cin_step w _ F4 gc 1 0 1 0 _ (H4.out.ext ((Ext.refl w4).alloc (.cells #[.bool false, .int .i64 0, .int .i64 0] 71))) (by omega) (by rw [updS_self]; intro e; cases e) (by omega)
  rw [updS_self] at ST4
  have STB := Lib.hid (show Calls Try.prog 29 #[.pointer (some ⟨gc, 0, none⟩), .int .i64 0] (w4.alloc (.cells #[.bool false, .int .i64 0, .int .i64 0] 71)) fun e w' => e = .returned (.tuple #[.agg #[.bool true, .int .i64 0, .int .i64 1], .int .i64 0]) ∧ CinGo w (w4.alloc (.cells #[.bool false, .int .i64 0, .int .i64 0] 71)) F4 gc 1 1 2 (updS (updS (updS (fun _ => .idle) 0 (startS 1 1)) 0 (.swap 0 1 10 1)) 0 .idle) w' from ST4)
  clear ST4
  refine STB.out.mono ?_
  rintro e w5 ⟨rfl, h5⟩
  obtain ⟨F5, h5, kb, _⟩ := h5.blk KB.out nb
  have H5 := Lib.hid h5
  have KB5 := Lib.hid (blk_past kb (.cells #[.bool true, .int .i64 0, .int .i64 1] 71 (0, 0)))
  have c0 := blk_cell KB5.out 0; have c1 := blk_cell KB5.out 1; have c2 := blk_cell KB5.out 2
  clear h5 kb
  have CV := Lib.hid (fun (u : World) (x : Ext w5 u) => cin_value w u F5 gc 1 1 2 _ (H5.out.ext x))
  have CS := Lib.hid (fun (u : World) (x : Ext w5 u) => cin_steps w u F5 gc 1 1 2 _ (H5.out.ext x))
  go_wp2_with fail
  refine (CV.out _ ((Ext.refl w5).alloc _)).mono ?_
  rintro e w6 ⟨rfl, rfl⟩
  go_wp2_with fail
  refine (CS.out _ ((Ext.refl w5).alloc _)).mono ?_
  rintro e w6 ⟨rfl, rfl⟩
  go_wp2_with fail
  go_ret
  exact ⟨rfl, (CntIn.out H5.out).alloc _⟩
end Go.Proofs.Ytfjgpeffhbfihaa
