/- The document's reader: Waiting, DocEnd, DocFeed; DocEncode. -/
import Derived.Test.YtkebkhgjoiiapaaFrG
import Derived.Test.YtkebkhgjoiiapaaFrP3
namespace Go.Proofs.Ytkebkhgjoiiapaa
open Go.RowKit

/-- what Encode answers -/
def encF (xs : List Nat) : List Nat × Int := if 4096 < xs.length then ([], 2) else if xs.length = 0 then ([], 3) else (len4 xs.length ++ xs, 0)
def RetEnc (xs : List Nat) (w : World) (e : Ending) (w' : World) : Prop :=
  ∃ A c, e = .returned (.tuple #[.slice A (encF xs).1.length c, .int .i64 (encF xs).2]) ∧ Rd w' A (vals .u8 (encF xs).1) ∧ Ext w w'
theorem encF_lt {xs : List Nat} (h : ∀ x ∈ xs, x < 256) : ∀ x ∈ (encF xs).1, x < 256 := by
  unfold encF
  split
  · simp
  · split
    · simp
    · intro x hx
      rcases List.mem_append.1 hx with hx | hx
      · exact len4_lt _ x hx
      · exact h x hx
theorem encF_len (xs : List Nat) : (encF xs).1.length ≤ 5000 := by
  unfold encF
  split
  · simp
  · split
    · simp
    · rw [List.length_append, len4_len]; omega
theorem frEncode_any (w : World) (A : Option Addr) (n c : Nat) (xs : List Nat) (hl : xs.length = n) (hr : Rd w A (vals .u8 xs)) : Calls Try.prog 21 #[.slice A n c] w (RetEnc xs w) := by
  by_cases h1 : 4096 < n
  · refine (frEncode_long w A n c h1).mono ?_
    rintro e w' ⟨rfl, rfl⟩
    unfold RetEnc encF
    rw [if_pos (by omega)]
    exact ⟨none, 0, rfl, Rd.nil _ _, Ext.refl _⟩
  · by_cases h2 : n = 0
    · subst h2
      refine (frEncode_none w A c).mono ?_
      rintro e w' ⟨rfl, rfl⟩
      unfold RetEnc encF
      rw [if_neg (by omega), if_pos hl]
      exact ⟨none, 0, rfl, Rd.nil _ _, Ext.refl _⟩
    · refine (frEncode_ok w A n c xs (by omega) (by omega) hl hr).mono ?_
      rintro e w' ⟨B, d, rfl, ho, hx⟩
      unfold RetEnc encF
      rw [if_neg (by omega), if_neg (by omega), hl]
      exact ⟨B, d, rfl, Rd.of_own ho, hx⟩
theorem wordB4 (n : Nat) : wordB n 4 = len4 n := by simp [wordB, len4]
set_option maxHeartbeats 1000000 in
theorem docEncode_any (w : World) (A : Option Addr) (n c : Nat) (xs : List Nat) (hl : xs.length = n) (hN : n ≤ 5000000000000) (hr : Rd w A (vals .u8 xs)) : Calls Try.prog 22 #[.slice A n c] w (RetEnc xs w) := by
  by_cases h1 : 4096 < n
  · have FIN : Hid (RetEnc xs w (.returned (.tuple #[.slice none 0 0, .int .i64 2])) w) := Lib.hid (by
      unfold RetEnc encF
      rw [if_pos (by omega)]
      exact ⟨none, 0, rfl, Rd.nil _ _, Ext.refl _⟩)
    clear hl hr
    go_enter Try.func22, Try.ntmps22
    go_wp2_with fail
    go_ret2
    exact FIN.out
  · by_cases h2 : n = 0
    · subst h2
      have FIN : Hid (RetEnc xs w (.returned (.tuple #[.slice none 0 0, .int .i64 3])) w) := Lib.hid (by
        unfold RetEnc encF
        rw [if_neg (by omega), if_pos hl]
        exact ⟨none, 0, rfl, Rd.nil _ _, Ext.refl _⟩)
      clear hl hr
      go_enter Try.func22, Try.ntmps22
      go_wp2_with fail
      go_ret2
      exact FIN.out
    · have hne : ((n : Int) == 0) = false := by rw [beq_eq_false_iff_ne]; omega
      have hwn : IntKind.u64.wrap (n : Int) = (n : Int) := by rw [IntKind.wrap_u64]; omega
      have WD := Lib.hid (docWord_any w n 4 (by omega) (by omega))
      have Hl := Lib.hid hl; have Hr := Lib.hid hr; clear hl hr
      go_enter Try.func22, Try.ntmps22
      go_wp2_with fail
      refine WD.out.mono ?_
      rintro e w1 ⟨A1, c1, rfl, ho1, hx1⟩
      rw [wordB4, len4_len] at ho1
      rw [wordB4, len4_len]
      go_wp2_with (first | (at_builtin; refine app_u8 _ rfl (.tmp 13) (.tmp 14) rfl w.heap.size rfl ho1 rfl Hl.out (Hr.out.ext hx1) (by omega) hx1.size ?_; intro A2 c2 w2 hown2 hgrow2 _) | fail)
      go_ret2
      unfold RetEnc encF
      rw [if_neg (by have := Hl.out; omega), if_neg (by have := Hl.out; omega), Hl.out]
      have hlen : (len4 n ++ xs).length = 4 + n := by rw [List.length_append, len4_len, Hl.out]
      dsimp only
      rw [hlen]
      exact ⟨A2, c2, rfl, Rd.of_own hown2, hx1.grown hgrow2 (own_ge ho1)⟩

/-- the document's reader in memory; D: its blocks -/
def IsDoc (w : World) (base d : Nat) (D : Nat → Prop) (all : List Nat) (told : Nat) (cl : Bool) : Prop :=
  ∃ A n c, w.heap[d]? = some (.cells #[.slice A n c, .int .i64 (told : Int), .bool cl] 36 (0, 0)) ∧ all.length = n ∧ w.ownsRow base 5 1 (.slice A n c) n (vals .u8 all) ∧
    (∀ q, (Value.slice A n c).ownBlock = some q → D q ∧ q ≠ d) ∧ D d ∧ ∀ i, D i → base ≤ i ∧ i < w.heap.size
theorem IsDoc.gb {w w' : World} {S D : Nat → Prop} {base d told : Nat} {all : List Nat} {cl : Bool} (h : IsDoc w base d D all told cl) (g : GB w w' S) (hs : ∀ i, D i → ¬ S i) : IsDoc w' base d D all told cl := by
  obtain ⟨A, n, c, h1, h2, h3, h4, h5, h6⟩ := h
  exact ⟨A, n, c, g.blk h1 (hs d h5), h2, g.own h3 (fun q e => hs q (h4 q e).1), h4, h5, fun i hi => ⟨(h6 i hi).1, Nat.lt_of_lt_of_le (h6 i hi).2 g.size⟩⟩
theorem IsDoc.ext {w w' : World} {D : Nat → Prop} {base d told : Nat} {all : List Nat} {cl : Bool} (h : IsDoc w base d D all told cl) (x : Ext w w') : IsDoc w' base d D all told cl := h.gb (GB.of_ext (fun _ => False) x) (fun _ _ => id)
/-- what waits -/
def waitN (all : List Nat) (cl : Bool) : Nat := if cl = true then 0 else (parse all).2.1.length
set_option maxHeartbeats 1000000 in
theorem docWaiting_any (w : World) (base d told : Nat) (D : Nat → Prop) (all : List Nat) (cl : Bool) (h : IsDoc w base d D all told cl) (hb : ∀ x ∈ all, x < 256) (hN : all.length ≤ 5000000000000) :
    Calls Try.prog 28 #[.pointer (some ⟨d, 0, none⟩)] w (RetE (.int .i64 (waitN all cl : Int)) w) := by
  obtain ⟨A, n, c, h1, h2, h3, h4, h5, h6⟩ := h
  have c0 : w.cell? ⟨d, 0, none⟩ = some (.slice A n c) := blk_cell h1 0
  have c2 : w.cell? ⟨d, 2, none⟩ = some (.bool cl) := blk_cell h1 2
  have H1 := Lib.hid h1
  cases cl with
  | true =>
    clear h1 h2 h3 h4 h5 h6
    go_enter Try.func28, Try.ntmps28
    go_wp2_with fail
    go_ret
    exact ⟨rfl, Ext.refl _⟩
  | false =>
    have FR := Lib.hid (frames_any w A n c all h2 (own_cap h3) hb (Rd.of_own h3) (by omega))
    have hp := (parse_small (all.length + 1) all (by omega)).1
    obtain ⟨q, hq⟩ : ∃ q, (parse all).2.1.length = q := ⟨_, rfl⟩
    obtain ⟨at_, hat⟩ : ∃ at_, n - q = at_ := ⟨_, rfl⟩
    have hsub : IntKind.i64.wrap ((n : Int) - (at_ : Int)) = (q : Int) := by rw [IntKind.wrap_i64]; omega
    have HAT := Lib.hid hat; have HQ := Lib.hid hq; have HL := Lib.hid h2
    clear h1 h2 h3 h4 h5 h6 hp hq hat
    go_enter Try.func28, Try.ntmps28
    go_wp2_with fail
    refine FR.out.mono ?_
    rintro e w1 ⟨B, m, k, rfl, hP, hx⟩
    rw [HQ.out, HL.out, HAT.out]
    have c0' := ext_cell hx c0
    have HX := Lib.hid hx
    clear hP hx
    go_wp2_with fail
    go_ret
    refine ⟨?_, HX.out⟩
    unfold waitN
    rw [if_neg (by simp), HQ.out]
    rfl
set_option maxHeartbeats 1000000 in
theorem docEnd_open (w : World) (base d told : Nat) (D : Nat → Prop) (all : List Nat) (h : IsDoc w base d D all told false) (hb : ∀ x ∈ all, x < 256) (hN : all.length ≤ 5000000000000) :
    Calls Try.prog 25 #[.pointer (some ⟨d, 0, none⟩)] w fun e w' => e = .returned (.tuple #[.int .i64 (waitN all false : Int), .int .i64 0]) ∧ IsDoc w' base d D all told true ∧ GB w w' D := by
  have WT := Lib.hid (docWaiting_any w base d told D all false h hb hN)
  obtain ⟨A, n, c, h1, h2, h3, h4, h5, h6⟩ := h
  have c2 : w.cell? ⟨d, 2, none⟩ = some (.bool false) := blk_cell h1 2
  have H1 := Lib.hid h1; have H3 := Lib.hid h3; have H4 := Lib.hid h4; have H5 := Lib.hid h5; have H6 := Lib.hid h6; have H2 := Lib.hid h2
  clear h1 h2 h3 h4 h5 h6
  obtain ⟨q, hq⟩ : ∃ q, waitN all false = q := ⟨_, rfl⟩
  rw [hq] at WT ⊢
  clear hq
  go_enter Try.func25, Try.ntmps25
  go_wp2_with fail
  refine WT.out.mono ?_
  rintro e w1 ⟨rfl, hx⟩
  have k2 := ext_cell hx c2
  have K1 := Lib.hid (blk_ext H1.out hx)
  have f2 := blk_frozen K1.out 2
  have HX := Lib.hid hx
  clear hx
  go_wp2_with fail
  go_ret2
  have gs : GB w1 (w1.setCell ⟨d, 2, none⟩ (.bool true)) (· = d) := (GB.refl w1 (· = d)).set d 2 _ (.inl rfl)
  refine ⟨rfl, ⟨A, n, c, blk_set K1.out 2 _, H2.out, gs.own (own_ext H3.out HX.out) (fun q e e' => (H4.out q e).2 e'), H4.out, H5.out, fun i hi => ⟨(H6.out i hi).1, Nat.lt_of_lt_of_le (H6.out i hi).2 (Nat.le_trans HX.out.size gs.size)⟩⟩, GB.back HX.out (gs.more (fun i _ e => e ▸ H5.out))⟩
theorem docEnd_closed (w : World) (base d told : Nat) (D : Nat → Prop) (all : List Nat) (h : IsDoc w base d D all told true) :
    Calls Try.prog 25 #[.pointer (some ⟨d, 0, none⟩)] w fun e w' => e = .returned (.tuple #[.int .i64 0, .int .i64 13]) ∧ w = w' := by
  obtain ⟨A, n, c, h1, _⟩ := h
  have c2 : w.cell? ⟨d, 2, none⟩ = some (.bool true) := blk_cell h1 2
  clear h1
  go_enter Try.func25, Try.ntmps25
  go_wp2_with fail
  go_ret2
  exact ⟨rfl, rfl⟩
theorem docFeed_closed (w : World) (base d told : Nat) (D : Nat → Prop) (all : List Nat) (A : Option Addr) (n c : Nat) (h : IsDoc w base d D all told true) :
    Calls Try.prog 26 #[.pointer (some ⟨d, 0, none⟩), .slice A n c] w fun e w' => e = .returned (.tuple #[.slice none 0 0, .int .i64 13]) ∧ w = w' := by
  obtain ⟨A, n, c, h1, _⟩ := h
  have c2 : w.cell? ⟨d, 2, none⟩ = some (.bool true) := blk_cell h1 2
  clear h1
  go_enter Try.func26, Try.ntmps26
  go_wp2_with fail
  go_ret2
  exact ⟨rfl, rfl⟩
end Go.Proofs.Ytkebkhgjoiiapaa
