/- FrameCuts answers true: however a stream is cut. -/
import Derived.Test.YtkebkhgjoiiapaaFrF
import Derived.Deep.DeepCutAuto
namespace Go.Proofs.Ytkebkhgjoiiapaa
open Go.RowKit

def CutsRel (w5 : World) (r2 : Nat) (xs : List Nat) (n : Nat) (g : Nat) (v9 v10 v11 v12 : Value) (wr : World) : Prop :=
  ∃ (k i : Nat) (Ab : Option Addr) (nb cb : Nat), k ≤ n ∧ g = (n - k) + (300 - i) ∧ (300 < i → k = n) ∧ v9 = .slice Ab nb cb ∧ v10 = .int .i64 (endF (xs.take k)) ∧ v11 = .int .i64 (k : Int) ∧ v12 = .int .i64 (i : Int) ∧ i ≤ 301 ∧ nb ≤ k ∧
    PL wr w5.heap.size Ab nb cb (parse (xs.take k)).1 ∧ IsRdr wr r2 (leftF (xs.take k)) (parse (xs.take k)).2.2 (fun b => (Value.slice Ab nb cb).ownBlock ≠ some b) ∧ w5.grownBy wr (some r2)

set_option maxRecDepth 100000 in
set_option maxHeartbeats 4000000 in
theorem frameCuts_walk (w : World) (A : Option Addr) (n c : Nat) (xs : List Nat) (hl : xs.length = n) (hb : ∀ x ∈ xs, x < 256) (hr : Rd w A (vals .u8 xs)) (hnc : n ≤ c) (hz : n ≤ 1048576)
    (B : Option Addr) (m d : Nat) (cs : List Nat) (hl2 : cs.length = m) (hb2 : ∀ x ∈ cs, x < 256) (hr2 : Rd w B (vals .u8 cs)) (_hmd : m ≤ d) (_hz2 : m ≤ 1048576) :
    Calls Try.prog 3 #[.slice A n c, .slice B m d] w (RetTrue w) := by
  have Hl := Lib.hid hl; have Hb := Lib.hid hb; have Hr := Lib.hid hr; have Hl2 := Lib.hid hl2; have Hb2 := Lib.hid hb2; have Hr2 := Lib.hid hr2; clear hl hb hr hl2 hb2 hr2
  go_enter Try.func3, Try.ntmps3
  go_wp2_with fail
  refine (frAwake w).mono ?_
  rintro e w1 ⟨rfl, hx1⟩
  go_wp2_with fail
  refine (frNew w1).mono ?_
  rintro e w2 ⟨rfl, hR2, hy2, hs2⟩
  have HR1 := Lib.hid hR2; clear hR2
  go_wp2_with fail
  refine (frNew w2).mono ?_
  rintro e w3 ⟨rfl, hR3, hy3, hs3⟩
  have hw0 : w.heap.size ≤ w1.heap.size := hx1.size
  have hx3 := (hx1.trans hy2).trans hy3
  have HR1' := Lib.hid (HR1.out.ext hy3)
  have HR3 := Lib.hid hR3; clear hR3 HR1
  go_wp2_with (first | (at_builtin; refine app_u8 _ rfl (.tmp 22) (.tmp 23) rfl w3.heap.size rfl (own0 w3) rfl Hl.out ((Hr.out.ext hx3).alloc _) (by omega) (by simp) ?_; intro A4 c4 w4 hown4 hgrow4 _) | fail)
  have hy4 : Ext w3 w4 := ((Ext.refl w3).alloc _).grown hgrow4 (own_ge (own0 w3))
  rw [Nat.zero_add, List.nil_append] at hown4
  have hr4 := Lib.hid (Rd.of_own hown4)
  have HR1 := Lib.hid (HR1'.out.ext hy4)
  have HR2 := Lib.hid (HR3.out.ext hy4)
  have hx4 := hx3.trans hy4
  have hs4 : w3.heap.size ≤ w4.heap.size := hy4.size
  clear hown4 hgrow4 HR1' HR3
  go_wp2_with fail
  refine (feed_open w4 w1.heap.size _ [] A4 n c4 xs HR1.out (by simp) Hl.out Hb.out hr4.out (by rw [List.length_nil]; omega)).mono ?_
  intro e w5 hF
  rw [List.nil_append] at hF
  obtain ⟨S5, A5, n5, c5, rfl, hn5, ⟨hS5, hS5'⟩, hP5, hR5, hg5⟩ := feedR_any hF
  have hs5 : w4.heap.size ≤ w5.heap.size := hg5.size
  have HN5 := Lib.hid hn5
  have HR2' := Lib.hid (HR2.out.grown hg5 (by intro h; injection h with h; omega) (fun b hb => hb.elim))
  have HP5 := Lib.hid hP5; have HR5 := Lib.hid hR5
  have hx5 : Ext w w5 := hx4.grown hg5 (fun k hk => by injection hk with hk; omega)
  clear hF hn5 hP5 hR5 hg5 HR1 HR2 hr4
  go_wp2_with fail
  have Hx5 := Lib.hid hx5; clear hx5
  go_loopg [9, 10, 11, 12] (n + 300) (fun g v9 v10 v11 v12 wr => CutsRel w5 w2.heap.size xs n g v9 v10 v11 v12 wr)
  case atStart =>
    refine ⟨0, 0, none, 0, 0, Nat.zero_le _, rfl, by omega, rfl, ?_, rfl, rfl, by omega, by omega, ?_, ?_, World.grownBy.refl _ _⟩
    · rw [List.take_zero, endF, parse_nil]; rfl
    · rw [List.take_zero, parse_nil]; exact PL.nil _ _
    · rw [List.take_zero, leftF, parse_nil]; exact HR2'.out.more (fun b hb => hb.elim)
  case round =>
    obtain ⟨k, i, Ab, nb, cb, hkn, rfl, hki, rfl, rfl, rfl, rfl, hi, hnb, hP, hR, hg⟩ := hrel
    have HP := Lib.hid hP; have HR := Lib.hid hR; have HG := Lib.hid hg; clear hP hR hg
    by_cases hlt : k < n
    · have hi300 : i ≤ 300 := by
        rcases Nat.lt_or_ge 300 i with h | h
        · have := hki h; omega
        · exact h
      clear hki
      go_upto_region 12 with fail
      go_cut [13, 45] (fun v v45 wc => v = .int .i64 ((n : Int) - (k : Int)) ∧ v45 = .bool (decide (i < m ∧ i < 300)) ∧ wc = wr)
      case first =>
        by_cases him : i < m
        · by_cases hi' : i < 300
          · go_wp2_with fail
            go_meet
            exact ⟨rfl, congrArg Value.bool (by simp [him]; omega), rfl⟩
          · go_wp2_with fail
            go_meet
            exact ⟨rfl, congrArg Value.bool (by simp [him]; omega), rfl⟩
        · go_wp2_with fail
          go_meet
          exact ⟨rfl, congrArg Value.bool (by simp [him]), rfl⟩
      case rest =>
      obtain ⟨rfl, rfl, rfl⟩ := hcut
      go_upto_if 45 with fail
      go_cut [13] (fun v wd => ∃ j : Nat, v = .int .i64 (j : Int) ∧ k + j ≤ n ∧ (i = 300 → k + j = n) ∧ wd = wc)
      case first =>
        by_cases him : i < m ∧ i < 300
        · have hd : decide (i < m ∧ i < 300) = true := by simp [him]
          obtain ⟨y, hy⟩ := get_of_lt (xs := cs) (j := i) (by rw [Hl2.out]; exact him.1)
          have hy256 := Hb2.out y (List.mem_of_getElem? hy)
          have hx6 : Ext w wc := Hx5.out.grown HG.out (fun k hk => by injection hk with hk; omega)
          obtain ⟨b, off, hB, hc⟩ := (Hr2.out.ext hx6).at_ hy
          subst hB
          clear hy
          go_wp2_with fail
          all_goals
            go_meet
            first
            | exact ⟨n - k, by go_num, by omega, by omega, rfl⟩
            | exact ⟨y, rfl, by omega, by omega, rfl⟩
        · have hd : decide (i < m ∧ i < 300) = false := by simp [him]
          go_wp2_with fail
          go_meet
          exact ⟨n - k, by go_num, by omega, by omega, rfl⟩
      case rest =>
        obtain ⟨j, rfl, hj, hj3, rfl⟩ := hcut
        have hx6 : Ext w wc := Hx5.out.grown HG.out (fun k hk => by injection hk with hk; omega)
        obtain ⟨d1, hd1⟩ : ∃ d1, c = d1 + k := ⟨c - k, by omega⟩
        obtain ⟨A6, hsl, hrd⟩ := slice_mid_any Try.underlying22 size_u8 (A := A) (n := n) (c := c) (m := j) (d := d1) k (k + j) (ki := (k : Int)) (hi := (k : Int) + (j : Int)) rfl (by omega) hj hnc (by omega) hd1
        have hr6 : Rd wc A6 (vals .u8 ((xs.drop k).take j)) := by
          rw [vals_take, vals_drop]; exact hrd wc _ (by rw [vals_len, Hl.out]) (Hr.out.ext hx6)
        have hlp : ((xs.drop k).take j).length = j := by rw [List.length_take, List.length_drop, Hl.out]; omega
        have hbp : ∀ x ∈ (xs.drop k).take j, x < 256 := fun x hx => Hb.out x (List.mem_of_mem_drop (List.mem_of_mem_take hx))
        have htk : xs.take (k + j) = xs.take k ++ (xs.drop k).take j := List.take_add
        generalize (xs.drop k).take j = P at *
        have Htk := Lib.hid htk; have Hbp := Lib.hid hbp; have Hlp := Lib.hid hlp; have Hr6 := Lib.hid hr6
        have Hhi := Lib.hid hj3
        clear htk hbp hlp hr6 hd1 hrd hj3
        go_wp2_with (first | (at_builtin; refine app_u8 _ rfl (.tmp 55) (.tmp 61) rfl wc.heap.size rfl (own0 wc) rfl Hlp.out (Hr6.out.alloc _) (by omega) (by simp) ?_; intro A7 c7 w7 hown7 hgrow7 _) | fail)
        rw [Nat.zero_add, List.nil_append] at hown7
        have hy7 : Ext wc w7 := ((Ext.refl wc).alloc _).grown hgrow7 (own_ge (own0 wc))
        have hr7 := Lib.hid (Rd.of_own hown7)
        have HR7 := Lib.hid (HR.out.ext hy7)
        have HP7 := Lib.hid (HP.out.ext hy7)
        have HG7 := Lib.hid (grown_ext HG.out hy7)
        have hs6 : w5.heap.size ≤ wc.heap.size := HG.out.size
        have hs7 : wc.heap.size ≤ w7.heap.size := hy7.size
        clear hown7 hgrow7 HR HP HG hsl
        obtain ⟨ls1, ls2⟩ := leftF_small (xs.take k)
        have hlk : (xs.take k).length = k := by rw [List.length_take, Hl.out]; omega
        have hlb : ∀ x ∈ leftF (xs.take k), x < 256 := fun x hx => Hb.out x (List.mem_of_mem_take (ls2 x hx))
        have Hlb := Lib.hid hlb; have Hlk := Lib.hid hlk; clear hlb hlk ls2
        have hls : (leftF (xs.take k)).length ≤ k := by have := Hlk.out; omega
        clear ls1
        by_cases hbad : (parse (xs.take k)).2.2 = true
        · obtain ⟨q1, q2, q3, q4⟩ := parse_stop (ys := P) hbad
          rw [← Htk.out] at q1 q2 q3 q4
          have he12 : endF (xs.take k) = 12 := by unfold endF; rw [if_pos hbad]
          have hle0 : leftF (xs.take k) = [] := by unfold leftF; rw [if_pos hbad]
          have hr7' := HR7.out
          rw [hbad] at hr7'
          have HR8 := Lib.hid hr7'
          have Q1 := Lib.hid q1; have Q2 := Lib.hid q2; have Q3 := Lib.hid q3; have Q4 := Lib.hid q4; have Hle0 := Lib.hid hle0
          clear q1 q2 q3 q4 hbad hr7' hle0 HR7
          rw [he12]
          clear he12
          go_wp2_with fail
          refine (feed_closed w7 w2.heap.size _ _ A7 j c7 HR8.out).mono ?_
          rintro e w8 ⟨rfl, rfl⟩
          go_wp2_with fail
          go_roundg ((n - (k + j)) + (300 - (i + 1)))
          case measure => have := Hhi.out; omega
          case rel =>
            refine ⟨k + j, i + 1, Ab, nb, cb, hj, rfl, by have := Hhi.out; omega, rfl, ?_, by go_num, by go_num, by omega, by omega, ?_, ?_, HG7.out⟩
            · rw [Q2.out]
            · rw [Q1.out]; exact HP7.out
            · rw [Q3.out, Q4.out, ← Hle0.out]; exact HR8.out
        · have hbad' : (parse (xs.take k)).2.2 = false := by simpa using hbad
          obtain ⟨q1, q2, q3, q4⟩ := parse_step (ys := P) hbad'
          rw [← Htk.out] at q1 q2 q3 q4
          have he0 : endF (xs.take k) = 0 := by unfold endF; rw [if_neg hbad]
          have hr7' := HR7.out
          rw [hbad'] at hr7'
          have HR8 := Lib.hid hr7'
          have Q1 := Lib.hid q1; have Q2 := Lib.hid q2; have Q3 := Lib.hid q3; have Q4 := Lib.hid q4
          clear q1 q2 q3 q4 hbad hbad' hr7' HR7
          rw [he0]
          clear he0
          go_wp2_with fail
          refine (feed_open w7 w2.heap.size _ (leftF (xs.take k)) A7 j c7 P HR8.out Hlb.out Hlp.out Hbp.out hr7.out (by omega)).mono ?_
          intro e w8 hF
          obtain ⟨S8, A8, n8, c8, rfl, hn8, ⟨hS8, hS8'⟩, hP8, hR8, hg8⟩ := feedR_any hF
          obtain ⟨vs, hPv⟩ := HP7.out.open_ hg8 (fun k hk => by injection hk with hk; omega)
          obtain ⟨vs', hvl, hvr, hv1, hfin⟩ := hPv.app hP8 hS8 (by omega) hg8.size
          have hov := hPv.own
          have hn8' : n8 ≤ n := by
            obtain ⟨p1, _, _⟩ := parse_small ((leftF (xs.take k) ++ P).length + 1) (leftF (xs.take k) ++ P) (by omega)
            rw [List.length_append, Hlp.out] at p1
            omega
          have hnk : nb + n8 ≤ k + j := by
            obtain ⟨p1, _, _⟩ := parse_small ((xs.take (k + j)).length + 1) (xs.take (k + j)) (by omega)
            rw [Q1.out, List.length_append, HP7.out.1, hn8, List.length_take, Hl.out] at p1
            omega
          have hs8 : w7.heap.size ≤ w8.heap.size := hg8.size
          have hlt8 : ∀ b, (Value.slice Ab nb cb).ownBlock = some b → w5.heap.size ≤ b ∧ b < w7.heap.size := fun b hb => ⟨own_ge hov b hb, by
            cases hA : Ab with
            | none => rw [hA] at hb; cases hb
            | some a =>
              rw [hA] at hb
              injection hb with hb
              have := own_lt (HP7.out.2.choose_spec.choose_spec.1) a hA
              omega⟩
          have HR9 := Lib.hid hR8; have HG8 := Lib.hid (World.grown_trans HG7.out hg8); have Hvl := Lib.hid hvl; have Hv1 := Lib.hid hv1; have Hfin := Lib.hid hfin; have Hlt8 := Lib.hid hlt8
          clear hF hP8 hR8 hg8 hPv hn8 HR8 HP7 HG7 hvl hv1 hfin hlt8
          go_wp2_with (first | (at_builtin; refine app_bb _ rfl (.tmp 71) (.tmp 72) rfl w5.heap.size rfl hov rfl Hvl.out hvr Hv1.out (by omega) (by omega) ?_; intro B9 cb9 w9 hown9 hgrow9 hblk9) | fail)
          have hfin := Hfin.out _ _ _ hown9 hgrow9
          have hlt8 := Hlt8.out
          go_roundg ((n - (k + j)) + (300 - (i + 1)))
          case measure => have := Hhi.out; omega
          case rel =>
            refine ⟨k + j, i + 1, B9, nb + n8, cb9, hj, rfl, by have := Hhi.out; omega, rfl, ?_, by go_num, by go_num, by omega, by omega, ?_, ?_, ?_⟩
            · rw [Q2.out]
            · rw [Q1.out]; exact hfin
            · rw [Q3.out, Q4.out]
              refine (HR9.out.grown hgrow9 (fun h => ?_) (fun b hb h => ?_)).more (fun b hb h => ?_)
              · have := hlt8 _ h; omega
              · have := hlt8 _ h; omega
              · rcases hblk9 with h' | h' <;> rw [h'] at h
                · have := hlt8 _ h; omega
                · injection h with h; omega
            · exact ⟨hgrow9.os.trans HG8.out.os, hgrow9.tape.trans HG8.out.tape, hgrow9.output.trans HG8.out.output, Nat.le_trans HG8.out.size hgrow9.size, fun q hq hne => (hgrow9.block q (Nat.lt_of_lt_of_le hq HG8.out.size) (fun e => by have := hlt8 q e.symm; omega)).trans (HG8.out.block q hq hne)⟩
    · obtain rfl : k = n := by omega
      have e1 : xs.take k = xs := List.take_of_length_le (by rw [Hl.out]; omega)
      have hP := HP.out; have hR := HR.out
      rw [e1] at hP hR ⊢
      obtain rfl : nb = n5 := hP.1.symm.trans HN5.out
      have HP2 := Lib.hid hP; have HR2 := Lib.hid hR; clear hP hR HP HR e1
      obtain ⟨ps1, ps2, ps3⟩ := parse_small (xs.length + 1) xs (by omega)
      have hB : ∀ ps ∈ (parse xs).1, ps.length ≤ 9223372036854775807 ∧ ∀ x ∈ ps, x < 256 := fun ps hp => ⟨by have := (ps3 ps hp).1; omega, fun x hx => Hb.out x ((ps3 ps hp).2 x hx)⟩
      have hPa : RdBB wr A5 (parse xs).1 := (HP5.out.keep HG.out (fun k hk => by injection hk with hk; omega)).rd
      have C := Lib.hid (refSame_true wr A5 Ab nb c5 cb (parse xs).1 HN5.out (by omega) hB hPa HP2.out.rd)
      have HRa := Lib.hid (HR5.out.grown HG.out (by intro h; injection h with h; omega) (fun b hb h => by injection h with h; omega))
      have hx6 : Ext w wr := Hx5.out.grown HG.out (fun k hk => by injection hk with hk; omega)
      clear hB hPa ps1 ps2 ps3 hki
      go_wp2_with fail
      refine (toE_q C.out).mono ?_
      rintro e w6 ⟨rfl, hy6⟩
      go_wp2_with fail
      refine (waiting_any _ _ _ _ _ (HRa.out.ext hy6)).mono ?_
      rintro e w7 ⟨rfl, rfl⟩
      go_wp2_with fail
      refine (waiting_any _ _ _ _ _ (HR2.out.ext hy6)).mono ?_
      rintro e w7 ⟨rfl, rfl⟩
      go_wp2_with fail
      go_ret
      exact retTrue (hx6.trans hy6)
end Go.Proofs.Ytkebkhgjoiiapaa
