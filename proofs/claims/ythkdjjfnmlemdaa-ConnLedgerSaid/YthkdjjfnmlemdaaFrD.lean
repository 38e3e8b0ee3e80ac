/- frame.Reader: New, Feed, End, Waiting; frame.Encode. -/
import Derived.Test.YthkdjjfnmlemdaaFrC
namespace Go.Proofs.Ythkdjjfnmlemdaa
open Go.RowKit

/-- what Feed leaves: 'all' is what waited and what came -/
def FeedR (all : List Nat) (w : World) (r : Nat) (e : Ending) (w' : World) : Prop :=
  ∃ S A n c, (w.heap.size ≤ S ∧ S ≤ w'.heap.size) ∧ PL w' S A n c (parse all).1 ∧ w.grownBy w' (some r) ∧
    ((parse all).2.2 = true → e = .returned (.tuple #[.slice A n c, .int .i64 12]) ∧ IsRdr w' r [] true (fun b => w.heap.size ≤ b ∧ b < S)) ∧
    ((parse all).2.2 = false → e = .returned (.tuple #[.slice A n c, .int .i64 0]) ∧ IsRdr w' r (parse all).2.1 false (fun b => w.heap.size ≤ b ∧ b < S))

theorem next_w (w : World) (r : Nat) (S : Nat → Prop) (ws : List Nat) (h : IsRdr w r ws false S) (hb : ∀ x ∈ ws, x < 256) (hN : ws.length ≤ 9223372036854775807) (hh : headF ws = 0) :
    Calls Try.prog 62 #[.pointer (some ⟨r, 0, none⟩)] w fun e w' => e = .returned (.tuple #[.slice none 0 0, .bool false, .int .i64 0]) ∧ IsRdr w' r ws false S ∧ w.grownBy w' (some r) :=
  (next_any w r S ws h hb hN).mono fun e w' ⟨hg, hc⟩ => by
    rcases hc with ⟨_, h2, h3⟩ | ⟨h1, _⟩ | ⟨h1, _⟩
    · exact ⟨h2, h3, hg⟩
    · omega
    · omega
theorem next_b (w : World) (r : Nat) (S : Nat → Prop) (ws : List Nat) (h : IsRdr w r ws false S) (hb : ∀ x ∈ ws, x < 256) (hN : ws.length ≤ 9223372036854775807) (hh : headF ws = 1) :
    Calls Try.prog 62 #[.pointer (some ⟨r, 0, none⟩)] w fun e w' => e = .returned (.tuple #[.slice none 0 0, .bool false, .int .i64 12]) ∧ (∃ A n c, w'.heap[r]? = some (.cells #[.slice A n c, .bool false] 103 (0, 0))) ∧ w.grownBy w' (some r) :=
  (next_any w r S ws h hb hN).mono fun e w' ⟨hg, hc⟩ => by
    rcases hc with ⟨h1, _⟩ | ⟨_, h2, h3⟩ | ⟨h1, _⟩
    · omega
    · exact ⟨h2, h3, hg⟩
    · omega
theorem next_f (w : World) (r : Nat) (S : Nat → Prop) (ws : List Nat) (h : IsRdr w r ws false S) (hb : ∀ x ∈ ws, x < 256) (hN : ws.length ≤ 9223372036854775807) (hh : headF ws = 2) :
    Calls Try.prog 62 #[.pointer (some ⟨r, 0, none⟩)] w fun e w' => ∃ A c, e = .returned (.tuple #[.slice A (payF ws).length c, .bool true, .int .i64 0]) ∧ w'.ownsRow w.heap.size 5 1 (.slice A (payF ws).length c) (payF ws).length (vals .u8 (payF ws)) ∧ IsRdr w' r (restF ws) false S ∧ w.grownBy w' (some r) :=
  (next_any w r S ws h hb hN).mono fun e w' ⟨hg, hc⟩ => by
    rcases hc with ⟨h1, _⟩ | ⟨h1, _⟩ | ⟨_, ⟨A, c, h2, h3⟩, h4⟩
    · omega
    · omega
    · exact ⟨A, c, h2, h3, h4, hg⟩

set_option maxRecDepth 100000 in
set_option maxHeartbeats 2000000 in
theorem feed_open (w : World) (r : Nat) (S : Nat → Prop) (ws : List Nat) (A : Option Addr) (n c : Nat) (xs : List Nat) (h : IsRdr w r ws false S) (hws : ∀ x ∈ ws, x < 256) (hl : xs.length = n) (hb : ∀ x ∈ xs, x < 256) (hr : Rd w A (vals .u8 xs))
    (hN : ws.length + n ≤ 5000000000000) :
    Calls Try.prog 23 #[.pointer (some ⟨r, 0, none⟩), .slice A n c] w (FeedR (ws ++ xs) w r) := by
  obtain ⟨A0, n0, c0, hblk, hl0, hnc0, hr0, hAS⟩ := h
  have h0 : w.cell? ⟨r, 0, none⟩ = some (.slice A0 n0 c0) := blk_cell hblk 0
  have h1 : w.cell? ⟨r, 1, none⟩ = some (.bool false) := blk_cell hblk 1
  have hrl := blk_lt hblk
  have C1 := Lib.hid (clone_any A0 n0 c0 ws w hl0 (by omega) hr0)
  have hN0 : n0 + n ≤ 5000000000000 := by omega
  have Hblk := Lib.hid hblk; have Hl0 := Lib.hid hl0; have Hr0 := Lib.hid hr0; have HAS := Lib.hid hAS; clear hblk hl0 hr0 hAS
  have Hl := Lib.hid hl; have Hr := Lib.hid hr; have Hb := Lib.hid hb; have Hws := Lib.hid hws; clear hl hr hb hws
  go_enter Try.func23, Try.ntmps23
  go_wp2_with fail
  refine C1.out.mono ?_
  rintro e w1 ⟨A1, c1, rfl, hown1, hx1⟩
  rw [Hl0.out] at hown1 ⊢
  go_wp2_with (first | (at_builtin; refine app_u8 _ rfl (.tmp 23) (.tmp 24) rfl w.heap.size rfl hown1 rfl Hl.out (Hr.out.ext hx1) (by omega) hx1.size ?_; intro A2 c2 w2 hown2 hgrow2 _; have hx2 : Ext w w2 := hx1.grown hgrow2 (own_ge hown1); have h02 : w2.cell? ⟨r, 0, none⟩ = some (.slice A0 n0 c0) := (hx2.cell (p := ⟨r, 0, none⟩) hrl).trans h0; have hf2 : w2.frozen? ⟨r, 0, none⟩ = false := (hx2.frozen (p := ⟨r, 0, none⟩) hrl).trans (blk_frozen Hblk.out 0)) | fail)
  have hblk2 : (w2.setCell ⟨r, 0, none⟩ (.slice A2 (n0 + n) c2)).heap[r]? = some (.cells #[.slice A2 (n0 + n) c2, .bool false] 103 (0, 0)) := blk_set (blk_ext Hblk.out hx2) 0 _
  have hg2 : w.grownBy (w2.setCell ⟨r, 0, none⟩ (.slice A2 (n0 + n) c2)) (some r) := grown_setCell (grown_ext (World.grownBy.refl w _) hx2) 0 _
  have hall : (ws ++ xs).length = n0 + n := by rw [List.length_append, Hl0.out, Hl.out]
  have hrd2 : IsRdr (w2.setCell ⟨r, 0, none⟩ (.slice A2 (n0 + n) c2)) r (ws ++ xs) false (fun b => w.heap.size ≤ b ∧ b < w2.heap.size) := by
    refine ⟨A2, n0 + n, c2, hblk2, hall, own_cap hown2, ?_, fun a ha => ⟨own_ge hown2 _ (by rw [ha]; rfl), own_lt hown2 a ha⟩⟩
    exact (Rd.of_own hown2).grown (grown_set _ _ _ _) (fun a ha hr => by
      injection hr with hr
      have := (hown2.lt a.block (by rw [ha]; rfl)).1
      omega)
  have hsz2 : w.heap.size ≤ w2.heap.size := hx2.size
  have hball : ∀ x ∈ ws ++ xs, x < 256 := fun x hx => by
    rcases List.mem_append.1 hx with hx | hx
    · exact Hws.out x hx
    · exact Hb.out x hx
  have Hg2 := Lib.hid hg2; have Hrd2 := Lib.hid hrd2; have Hball := Lib.hid hball; have Hall := Lib.hid hall
  clear hown1 hgrow2 hx1 hown2 h02 hf2 hblk2 hg2 hrd2 hball hall h0 h1
  generalize hS : w2.heap.size = S2 at *
  have HS := Lib.hid hS; clear hS
  generalize hAL : ws ++ xs = al at *
  clear hAL
  go_loopg [6] (n0 + n) (fun g out wr => ∃ done todo A n' c, todo.length = g ∧ out = .slice A n' c ∧ PL wr S2 A n' c done ∧ IsRdr wr r todo false (fun b => w.heap.size ≤ b ∧ b < S2) ∧ w.grownBy wr (some r) ∧ S2 ≤ wr.heap.size ∧ (∀ x ∈ todo, x < 256) ∧ n' + todo.length ≤ n0 + n ∧ done ++ (parse todo).1 = (parse al).1 ∧ (parse todo).2 = (parse al).2)
  case atStart => exact ⟨[], al, none, 0, 0, Hall.out, rfl, PL.nil _ _, Hrd2.out, Hg2.out, by have := HS.out; simp; omega, Hball.out, by have := Hall.out; omega, rfl, rfl⟩
  case round =>
    obtain ⟨done, todo, Ao, no, co, hgk, rfl, hPL, hR, hgw, hSw, hbt, hle, hp1, hp2⟩ := hrel
    have hrS2 : r < S2 := by omega
    have HP1 := Lib.hid hp1; have HP2 := Lib.hid hp2; have HPL := Lib.hid hPL; have HR := Lib.hid hR; have HGW := Lib.hid hgw; have HBT := Lib.hid hbt; have HGK := Lib.hid hgk
    clear hp1 hp2 hPL hR hgw hbt hgk
    rcases headF_cases todo with hh | hh | hh
    · have C := Lib.hid (next_w wr r _ todo HR.out HBT.out (by omega) hh)
      have HH := Lib.hid hh; clear hh
      go_wp2_with fail
      refine C.out.mono ?_
      rintro e w4 ⟨rfl, hR4, hg4⟩
      have HR4 := Lib.hid hR4; have HG4 := Lib.hid hg4; clear hR4 hg4
      go_wp2_with fail
      go_ret2
      have e1 := parse_wait HH.out
      refine ⟨S2, Ao, no, co, ⟨hsz2, Nat.le_trans hSw HG4.out.size⟩, ?_, World.grown_trans HGW.out HG4.out, ?_, ?_⟩
      · rw [← HP1.out, e1, List.append_nil]; exact HPL.out.keep HG4.out (fun k hk => by injection hk with hk; omega)
      · intro h; rw [← HP2.out, e1] at h; cases h
      · intro _; rw [← HP2.out, e1]; exact ⟨rfl, HR4.out⟩
    · have C := Lib.hid (next_b wr r _ todo HR.out HBT.out (by omega) hh)
      have HH := Lib.hid hh; clear hh
      go_wp2_with fail
      refine C.out.mono ?_
      rintro e w4 ⟨rfl, ⟨A4, n4, c4, hb4⟩, hg4⟩
      have k0 : w4.cell? ⟨r, 0, none⟩ = some (.slice A4 n4 c4) := blk_cell hb4 0
      have k1 : w4.cell? ⟨r, 1, none⟩ = some (.bool false) := blk_cell hb4 1
      have f0 := blk_frozen hb4 0
      have f1 := blk_frozen hb4 1
      have HB4 := Lib.hid hb4; have HG4 := Lib.hid hg4; clear hb4 hg4
      go_wp2_with fail
      go_ret2
      have e1 := parse_bad HH.out
      have hg5 := grown_setCell (grown_setCell (World.grown_trans HGW.out HG4.out) 1 (.bool true)) 0 (.slice none 0 0)
      refine ⟨S2, Ao, no, co, ⟨hsz2, by simpa using Nat.le_trans hSw HG4.out.size⟩, ?_, hg5, ?_, ?_⟩
      · rw [← HP1.out, e1, List.append_nil]
        exact (HPL.out.keep HG4.out (fun k hk => by injection hk with hk; omega)).keep (grown_setCell (grown_set _ _ _ _) 0 _) (fun k hk => by injection hk with hk; omega)
      · intro _; exact ⟨rfl, none, 0, 0, blk_set (blk_set HB4.out 1 _) 0 _, rfl, Nat.le_refl _, Rd.nil _ _, fun a ha => by cases ha⟩
      · intro h; rw [← HP2.out, e1] at h; cases h
    · have C := Lib.hid (next_f wr r _ todo HR.out HBT.out (by omega) hh)
      have hrl := restF_lt hh
      have hrl1 : (restF todo).length < todo.length := hrl.1
      have hps : 0 < (payF todo).length := by omega
      clear hrl
      have hpm : ∀ x ∈ restF todo, x < 256 := fun x hx => HBT.out x (List.mem_of_mem_drop (List.mem_of_mem_drop hx))
      have HPM := Lib.hid hpm; clear hpm
      have HH := Lib.hid hh; clear hh
      go_wp2_with fail
      refine C.out.mono ?_
      rintro e w4 ⟨A4, c4, rfl, hown4, hR4, hg4⟩
      obtain ⟨vs, hPv⟩ := HPL.out.open_ hg4 (fun k hk => by injection hk with hk; omega)
      have hov := hPv.own
      have HOWN4 := Lib.hid hown4; have HR4 := Lib.hid hR4; have HG4 := Lib.hid hg4; have HPV := Lib.hid hPv; clear hown4 hR4 hg4 hPv
      have hsz4 : wr.heap.size ≤ w4.heap.size := HG4.out.size
      go_wp2_with (first | (at_builtin; refine app_bb _ rfl (.tmp 47) (.tmp 49) rfl S2 rfl (hov.alloc _) rfl (m := 1) (news := [.slice A4 (payF todo).length c4]) rfl (rd_new _ _ _) (fun u hu => by rw [List.mem_singleton.1 hu]; rfl) (by omega) (by simp; omega) ?_; intro B5 cb5 w5 hown5 hgrow5 _) | fail)
      go_roundg (restF todo).length
      case measure => have := HGK.out; omega
      case rel =>
        have hx5 : w4.grownBy w5 (Value.slice Ao no co).ownBlock := World.grown_trans (World.grownBy_alloc _ _ _) hgrow5
        have e1 := parse_frame HH.out
        have hrow : ∀ k, (Value.slice Ao no co).ownBlock = some k → S2 ≤ k := own_ge hov
        obtain ⟨A6, n6, c6, q1, q2, q3, q4, q6⟩ := HR4.out
        have q7 : w5.heap[r]? = some (.cells #[.slice A6 n6 c6, .bool false] 103 (0, 0)) := (hx5.block r (blk_lt q1) (fun e => by have := hrow r e.symm; omega)).trans q1
        refine ⟨done ++ [payF todo], restF todo, B5, no + 1, cb5, rfl, rfl, ?_, ⟨A6, n6, c6, q7, q2, q3, q4.grown hx5 (fun a ha hr => by have := hrow _ hr; have := (q6 a ha).2; omega), q6⟩, ?_, ?_, HPM.out, ?_, ?_, ?_⟩
        · exact HPV.out.snoc HOWN4.out hps hSw hsz4 (World.grownBy_alloc _ _ _) hown5 hgrow5
        · have hg := World.grown_trans HGW.out HG4.out
          exact ⟨hx5.os.trans hg.os, hx5.tape.trans hg.tape, hx5.output.trans hg.output, Nat.le_trans hg.size hx5.size, fun i hi hne => (hx5.block i (Nat.lt_of_lt_of_le hi hg.size) (fun e => by have := hrow i e.symm; omega)).trans (hg.block i hi hne)⟩
        · have := hx5.size; omega
        · omega
        · rw [← HP1.out, e1]; simp
        · rw [← HP2.out, e1]
end Go.Proofs.Ythkdjjfnmlemdaa
