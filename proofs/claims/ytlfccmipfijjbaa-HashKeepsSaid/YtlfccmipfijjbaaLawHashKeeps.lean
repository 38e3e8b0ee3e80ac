/- HashKeeps answers true: bytes that are handed in come back untouched; identities and keys that are answered are new memory. -/
import Derived.Test.YtlfccmipfijjbaaHashAwake
namespace Go.Proofs.Ytlfccmipfijjbaa
open Go.RowKit

theorem rd_grown_own {w w' : World} {base : Nat} {e : TypeId} {A : Option Addr} {n c : Nat} {xs : List Value} {row : Option Nat} {B : Option Addr} {vs : List Value}
    (h : Rd w B vs) (hg : w.grownBy w' row) (hB : ∀ a, B = some a → a.block < base) (ho : w.ownsRow base e 1 (.slice A n c) n xs) (hrow : row = (Value.slice A n c).ownBlock) : Rd w' B vs :=
  h.grown hg fun a ha hr => by
    have h1 := hB a ha
    have h2 := own_ge ho a.block (by rw [← hrow]; exact hr)
    omega
set_option maxHeartbeats 4000000 in
theorem hashKeeps_walk (w : World) (A : Option Addr) (n c : Nat) (xs : List Nat) (hl : xs.length = n) (hb : ∀ x ∈ xs, x < 256) (hr : Rd w A (vals .u8 xs)) (_hnc : n ≤ c) (hz : n ≤ 140737488351232) :
    Calls Try.prog 9 #[.slice A n c] w (RetTrue w) := by
  have hA : ∀ a, Rd w A (vals .u8 xs) → xs ≠ [] → A = some a → a.block < w.heap.size := fun a h hne ha => by
    obtain ⟨b, off, hA', hc⟩ := h (by simpa [vals] using hne)
    cases xs with
    | nil => exact absurd rfl hne
    | cons x t =>
      have := World.block_lt_of_cell? w _ (hc 0 _ rfl)
      rw [hA'] at ha
      injection ha with ha
      subst ha
      exact this
  clear hA
  have C1 := Lib.hid (fun w1 (hx : Ext w w1) => spare_any A n c xs w1 hl hz (hr.ext hx))
  have hb5 : ∀ x ∈ 5 :: xs, x < 256 := fun x hx => by
    rcases List.mem_cons.1 hx with rfl | hx
    · omega
    · exact hb x hx
  have Hl := Lib.hid hl; have Hb := Lib.hid hb; have Hb5 := Lib.hid hb5; have Hr := Lib.hid hr
  clear hl hb hr hb5
  go_enter Try.func9, Try.ntmps9
  go_wp2_with fail
  refine (awake_any w).mono ?_
  rintro e w1 ⟨rfl, hx1⟩
  go_wp2_with fail
  refine (C1.out w1 hx1).mono ?_
  rintro e w2 ⟨A2, c2, rfl, hf, hy2⟩
  rw [Hl.out] at hf ⊢
  have hcf := own_cap hf
  have hx2 := hx1.trans hy2
  have hrf := Lib.hid (Rd.of_own hf)
  have hrk := Lib.hid (rd_take hrf.out)
  have hfl := Lib.hid (own_lt hf)
  have Hf := Lib.hid hf; clear hf
  by_cases hn : n ≤ 255
  · have hnd : decide ((n : Int) ≤ 255) = true := by simp; omega
    go_wp2_with fail
    refine (ident_ok 5 A2 n c2 xs w2 (by omega) Hl.out hn hrk.out).mono ?_
    rintro e w3 ⟨A3, c3, rfl, ha, hy3⟩
    rw [List.length_cons, Hl.out] at ha ⊢
    obtain ⟨ga, rfl, hga, hga'⟩ := own_block ha (by omega)
    have hca := own_cap ha
    have hrf3 := Lib.hid (hrf.out.ext hy3)
    have hrk3 := Lib.hid (hrk.out.ext hy3)
    have hx3 := hx2.trans hy3
    have Ha3 := Lib.hid ha; clear ha
    go_wp2_with fail
    refine (ident_ok 5 A2 n c2 xs w3 (by omega) Hl.out hn hrk3.out).mono ?_
    rintro e w4 ⟨A4, c4, rfl, hbb, hy4⟩
    rw [List.length_cons, Hl.out] at hbb ⊢
    obtain ⟨gb, rfl, hgb, hgb'⟩ := own_block hbb (by omega)
    have hcb := own_cap hbb
    have hrf4 := Lib.hid (hrf3.out.ext hy4)
    have hrk4 := Lib.hid (hrk3.out.ext hy4)
    have Ha4 := Lib.hid (own_ext Ha3.out hy4)
    have hx4 := hx3.trans hy4
    have Hb4 := Lib.hid hbb; clear hbb
    go_wp2_with fail
    refine (parts_ok (some ⟨ga, 0, none⟩) (n + 1) c3 5 xs w4 (by omega) (by rw [Hl.out]) hca (by omega) (Rd.of_own Ha4.out)).mono ?_
    rintro e w5 ⟨A5, c5, rfl, hp, hy5⟩
    rw [Hl.out] at hp ⊢
    have hrf5 := Lib.hid (hrf4.out.ext hy5)
    have hrk5 := Lib.hid (hrk4.out.ext hy5)
    have Ha5 := Lib.hid (own_ext Ha4.out hy5)
    have Hb5' := Lib.hid (own_ext Hb4.out hy5)
    have hx5 := hx4.trans hy5
    have hsz3 : w3.heap.size ≤ w4.heap.size := hy4.size
    have hsz4 : w4.heap.size ≤ w5.heap.size := hy5.size
    have Hp5 := Lib.hid hp; clear hp
    go_wp2_with fail
    refine (sum_any A2 n c2 xs w5 Hl.out Hb.out (by omega) hrk5.out).mono ?_
    rintro e w6 ⟨rfl, rfl⟩
    go_wp2_with fail
    refine (toE_q (shard_ok A2 n c2 xs 2 w5 Hl.out Hb.out (by omega) hrk5.out (by omega))).mono ?_
    rintro e w6 ⟨rfl, hy6⟩
    have hrf6 := Lib.hid (hrf5.out.ext hy6)
    have hrk6 := Lib.hid (hrk5.out.ext hy6)
    have Ha6 := Lib.hid (own_ext Ha5.out hy6)
    have Hb6 := Lib.hid (own_ext Hb5'.out hy6)
    have Hp6 := Lib.hid (own_ext Hp5.out hy6)
    have hx6 := hx5.trans hy6
    go_wp2_with fail
    refine (order_any A2 (some ⟨ga, 0, none⟩) n c2 (n + 1) c3 xs (5 :: xs) w6 Hl.out (by rw [List.length_cons, Hl.out]) Hb.out Hb5.out hrk6.out (Rd.of_own Ha6.out)).mono ?_
    rintro e w7 ⟨rfl, rfl⟩
    go_wp2_with fail
    refine (toE_q (kept_true A2 A n (n + 3) c2 c xs w6 Hl.out rfl hcf (by omega) Hb.out hrf6.out (Hr.out.ext hx6))).mono ?_
    rintro e w7 ⟨rfl, hy7⟩
    have hrf7 := Lib.hid (hrf6.out.ext hy7)
    have Ha7 := Lib.hid (own_ext Ha6.out hy7)
    have Hb7 := Lib.hid (own_ext Hb6.out hy7)
    have Hp7 := Lib.hid (own_ext Hp6.out hy7)
    have hx7 := hx6.trans hy7
    clear hrf hrk hrf3 hrk3 hrf4 hrk4 hrf5 hrk5 hrf6 hrk6 Ha3 Ha4 Ha5 Ha6 Hb4 Hb5' Hb6 Hp5 Hp6
    go_wp2_with fail
    go_loopw [67] (fun i wr => ∃ k L, k ≤ n + 1 ∧ i = .int .i64 ((k : Nat) : Int) ∧ (∀ x ∈ L, x < 256) ∧ wr.ownsRow w2.heap.size 5 1 (.slice (some ⟨ga, 0, none⟩) (n + 1) c3) (n + 1) (vals .u8 L) ∧ w7.grownBy wr (some ga)) (fun i _ => n + 1 - (intOf i).toNat)
    case atStart => exact ⟨0, 5 :: xs, Nat.zero_le _, rfl, Hb5.out, Ha7.out, World.grownBy.refl _ _⟩
    case round =>
      obtain ⟨k, L, hk, rfl, hL, ha, hg⟩ := hrel
      have HL := Lib.hid hL; clear hL
      by_cases hlt : k < n + 1
      · have hc0 := ha.cellAt k (by omega)
        obtain ⟨y, hy⟩ := get_of_lt (xs := L) (j := k) (by have := ha.1; rw [vals_len] at this; omega)
        rw [vals_get hy] at hc0
        have hfz := ha.frozenAt k
        have hst := Lib.hid (ha.stored k (.int .u8 7))
        clear hy
        have Ha := Lib.hid ha; have Hg := Lib.hid hg; clear ha hg
        go_wp2
        go_roundw
        case rel => exact ⟨k + 1, L.set k 7, by omega, by go_num, mem_set HL.out (by omega), by rw [vals_set]; exact hst.out.1, World.grown_trans Hg.out hst.out.2⟩
        case measure => simp [intOf]; omega
      · have hbg : w.heap.size ≤ ga := by have := hx2.size; omega
        go_wp2_with (first | (at_builtin; refine app_u8 _ rfl (.tmp 74) (.tmp 75) rfl w2.heap.size rfl (ha.alloc _) rfl (m := 2) (news := [8, 9]) rfl (rd_new _ _ _) (by omega) (by have := hg.size; have := hy3.size; have := hy4.size; have := hy5.size; have := hy6.size; have := hy7.size; simp; omega) ?_; intro A8 c8 w8 hown8 hgrow8 _) | (fail))
        have hg8 := World.grown_trans (World.grown_trans hg (World.grownBy_alloc wr _ (some ga))) hgrow8
        have hx8 : Ext w w8 := hx7.grown hg8 (fun k hk => by injection hk with hk; omega)
        have hrf8 := Lib.hid (hrf7.out.grown hg8 (fun a ha' hr => by have := hfl.out a ha'; injection hr with hr; omega))
        have Hb8 := Lib.hid (Hb7.out.kept hg8 (.inr (by simp [Value.ownBlock]; omega)))
        have Hp8 := Lib.hid (Hp7.out.kept hg8 (.inr (fun h => by have := own_ge Hp7.out ga h; omega)))
        clear hg hg8 hgrow8 hown8 ha
        clear hrf7 Hb7 Hp7 Ha7
        go_loopw [79] (fun i wr => ∃ k L, k ≤ n ∧ i = .int .i64 ((k : Nat) : Int) ∧ (∀ x ∈ L, x < 256) ∧ wr.ownsRow w4.heap.size 5 1 (.slice A5 n c5) n (vals .u8 L) ∧ w8.grownBy wr (Value.slice A5 n c5).ownBlock) (fun i _ => n - (intOf i).toNat)
        case atStart => exact ⟨0, xs, Nat.zero_le _, rfl, Hb.out, Hp8.out, World.grownBy.refl _ _⟩
        case round =>
          obtain ⟨k, L, hk, rfl, hL, hp, hg⟩ := hrel
          have HL := Lib.hid hL; clear hL
          by_cases hlt : k < n
          · obtain ⟨gp, hA5, _, _⟩ := own_block hp (by omega)
            subst hA5
            have hc0 := hp.cellAt k (by omega)
            obtain ⟨y, hy⟩ := get_of_lt (xs := L) (j := k) (by have := hp.1; rw [vals_len] at this; omega)
            have hy256 := HL.out y (List.mem_of_getElem? hy)
            rw [vals_get hy] at hc0
            have hfz := hp.frozenAt k
            have hxr : bits .xor .u8 (y : Int) 1 = ((y ^^^ 1 : Nat) : Int) := Go.u8_xor_nat y 1 hy256 (by omega)
            have hxr256 : y ^^^ 1 < 256 := by
              have := @Nat.xor_lt_two_pow y 1 8 (by omega) (by omega)
              simpa using this
            have hst := Lib.hid (hp.stored k (.int .u8 ((y ^^^ 1 : Nat) : Int)))
            clear hy
            have Hp := Lib.hid hp; have Hg := Lib.hid hg; clear hp hg
            go_wp2
            go_roundw
            case rel => exact ⟨k + 1, L.set k (y ^^^ 1), by omega, by go_num, mem_set HL.out hxr256, by rw [vals_set]; exact hst.out.1, World.grown_trans Hg.out hst.out.2⟩
            case measure => simp [intOf]; omega
          · have hwp : ∀ k, (Value.slice A5 n c5).ownBlock = some k → w4.heap.size ≤ k := own_ge hp
            have hx9 : Ext w wr := hx8.grown hg (fun k hk => by have := hwp k hk; have := hx4.size; omega)
            have hrf9 := Lib.hid (hrf8.out.grown hg (fun a ha' hr => by have := hfl.out a ha'; have := hwp _ hr; have := hy3.size; omega))
            have hb9 := Hb8.out.kept hg (.inr (fun h => by have := hwp gb h.symm; omega))
            have hcb0 := hb9.cellAt 0 (by omega)
            have hcb1 : wr.cell? ⟨gb, 0, none⟩ = some (.int .u8 5) := by rw [hcb0]; rfl
            obtain ⟨d, hd⟩ : ∃ d, c4 = d + 1 := ⟨c4 - 1, by omega⟩
            obtain ⟨Ab, hsl, hrd, _⟩ := slice_from_any Try.underlying23 size_u8 (A := some ⟨gb, 0, none⟩) (n := n + 1) (c := c4) (m := n) (d := d) 1 (ki := 1) rfl hcb rfl hd
            have hrb := Lib.hid (hrd wr (vals .u8 (5 :: xs)) (by rw [vals_len, List.length_cons, Hl.out]) (Rd.of_own hb9))
            have Hd := Lib.hid hd
            clear hp hg hb9 hcb0 hrd hd hwp hrf8 Hb8 Hp8
            go_wp2_with fail
            refine (toE_q (same_any Ab A n d n c xs xs wr Hl.out Hl.out (by omega) Hb.out Hb.out hrb.out (Hr.out.ext hx9))).mono ?_
            rintro e w9 ⟨rfl, hy9⟩
            have hrf10 := Lib.hid (hrf9.out.ext hy9)
            have hx10 := hx9.trans hy9
            rw [show same xs xs = true from decide_eq_true rfl]
            go_wp2_with fail
            refine (toE_q (kept_true A2 A n (n + 3) c2 c xs w9 Hl.out rfl hcf (by omega) Hb.out hrf10.out (Hr.out.ext hx10))).mono ?_
            rintro e w10 ⟨rfl, hy10⟩
            go_wp2_with fail
            go_ret
            exact retTrue (hx10.trans hy10)
  · have hn' : 255 < n := by omega
    have hnd : decide ((n : Int) ≤ 255) = false := by simp; omega
    go_wp2_with fail
    refine (toE_eq (ident_long 5 A2 n c2 w2 (by omega) (by omega) hn')).mono ?_
    rintro e w3 ⟨rfl, hy3⟩
    have hx3 := hx2.trans hy3
    go_wp2_with fail
    refine (toE_eq (ident_long 5 A2 n c2 w3 (by omega) (by omega) hn')).mono ?_
    rintro e w4 ⟨rfl, hy4⟩
    have hx4 := hx3.trans hy4
    go_wp2_with fail
    refine (toE_eq (parts_none none 0 0 w4 (.inl rfl))).mono ?_
    rintro e w5 ⟨rfl, hy5⟩
    have hy5' := (hy3.trans hy4).trans hy5
    have hrf5 := Lib.hid (hrf.out.ext hy5')
    have hrk5 := Lib.hid (hrk.out.ext hy5')
    have hx5 := hx4.trans hy5
    go_wp2_with fail
    refine (sum_any A2 n c2 xs w5 Hl.out Hb.out (by omega) hrk5.out).mono ?_
    rintro e w6 ⟨rfl, rfl⟩
    go_wp2_with fail
    refine (toE_q (shard_ok A2 n c2 xs 2 w5 Hl.out Hb.out (by omega) hrk5.out (by omega))).mono ?_
    rintro e w6 ⟨rfl, hy6⟩
    have hrf6 := Lib.hid (hrf5.out.ext hy6)
    have hrk6 := Lib.hid (hrk5.out.ext hy6)
    have hx6 := hx5.trans hy6
    go_wp2_with fail
    refine (order_any A2 none n c2 0 0 xs [] w6 Hl.out rfl Hb.out (by simp) hrk6.out (Rd.nil _ _)).mono ?_
    rintro e w7 ⟨rfl, rfl⟩
    go_wp2_with fail
    refine (toE_q (kept_true A2 A n (n + 3) c2 c xs w6 Hl.out rfl hcf (by omega) Hb.out hrf6.out (Hr.out.ext hx6))).mono ?_
    rintro e w7 ⟨rfl, hy7⟩
    have hx7 := hx6.trans hy7
    go_wp2_with fail
    go_ret
    exact retTrue hx7
end Go.Proofs.Ytlfccmipfijjbaa
