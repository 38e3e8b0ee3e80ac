/- wire.Request. -/
import Derived.Test.YthkdjjfnmlemdaaWirePlain
import Derived.Test.YthkdjjfnmlemdaaTokR
import Derived.Deep.DeepCutAuto
namespace Go.Proofs.Ythkdjjfnmlemdaa
open Go.RowKit

theorem form_ok (N : Int) (w : World) (h : 0 ≤ N) (h' : N ≤ 4611686018427387903) : Calls Try.prog 72 #[.int .i64 N] w fun e w' => e = .returned (.bool true) ∧ w = w' := by
  go_enter Try.func72, Try.ntmps72
  go_wp2_with fail
  go_ret
  exact ⟨rfl, rfl⟩
theorem form_bad (N : Int) (w : World) (h : N < 0 ∨ 4611686018427387903 < N) : Calls Try.prog 72 #[.int .i64 N] w fun e w' => e = .returned (.bool false) ∧ w = w' := by
  rcases h with h | h
  · go_enter Try.func72, Try.ntmps72
    go_wp2_with fail
    go_ret
    exact ⟨rfl, rfl⟩
  · have h' : 0 ≤ N := by omega
    go_enter Try.func72, Try.ntmps72
    go_wp2_with fail
    go_ret
    exact ⟨ret_bool (by simp; omega), rfl⟩

set_option maxHeartbeats 2000000 in
theorem wireNum_any (w w0 : World) (base : Nat) (A : Option Addr) (m c : Nat) (xs : List Nat) (v : Nat) (hl : xs.length = m) (ho : w.ownsRow base 5 1 (.slice A m c) m (vals .u8 xs)) (hx : Ext w0 w) (hbase : w0.heap.size ≤ base) (hbw : base ≤ w.heap.size)
    (hv : v < 9223372036854775808) (hm : m ≤ 1000000) :
    Calls Try.prog 73 #[.slice A m c, .int .i64 (v : Int)] w fun e w' => ∃ A' c', e = .returned (.slice A' (m + 8) c') ∧ w'.ownsRow base 5 1 (.slice A' (m + 8) c') (m + 8) (vals .u8 (xs ++ wordB v 8)) ∧ Ext w0 w' ∧ w.heap.size ≤ w'.heap.size := by
  have Ho := Lib.hid ho; have Hl := Lib.hid hl; clear ho hl
  go_enter Try.func73, Try.ntmps73
  go_wp2_with fail
  go_loopg [0, 5] 8 (fun g v0 v5 wr => ∃ (j : Nat) (A' : Option Addr) (c' : Nat), j ≤ 8 ∧ g = 8 - j ∧ v0 = .slice A' (m + j) c' ∧ v5 = .int .i64 (56 - 8 * (j : Int)) ∧ Ext w0 wr ∧ w.heap.size ≤ wr.heap.size ∧
    wr.ownsRow base 5 1 (.slice A' (m + j) c') (m + j) (vals .u8 (xs ++ (wordB v 8).take j)))
  case atStart =>
    exact ⟨0, A, c, Nat.zero_le _, rfl, rfl, by go_num, hx, Nat.le_refl _, by simpa using Ho.out⟩
  case round =>
    obtain ⟨j, A', c', hj, rfl, rfl, rfl, hxr, hsz, hor⟩ := hrel
    have Hxr := Lib.hid hxr; clear hxr
    by_cases hlt : j < 8
    · have hg := wordB_get v 8 j hlt
      obtain ⟨t, ht⟩ : ∃ t, t = 8 * (7 - j) := ⟨_, rfl⟩
      have e1 : (56 - 8 * (j : Int)) = (t : Int) := by omega
      have e2 : v / 256 ^ (8 - 1 - j) % 256 = v / 2 ^ t % 256 := by
        rw [ht, show (256 : Nat) = 2 ^ 8 from rfl, ← Nat.pow_mul]
      rw [e2] at hg
      rw [e1]
      have Hg := Lib.hid hg
      have hib := Lib.hid (show ((v : Int) / 2 ^ t % 256) = ((v / 2 ^ t % 256 : Nat) : Int) by simp only [Int.natCast_emod, Int.natCast_ediv, Int.natCast_pow]; rfl)
      have ht56 : t ≤ 56 := by omega
      have Ht := Lib.hid ht
      clear hg e1 e2 ht
      have hs1 : wr.heap.size ≥ base := by omega
      go_wp2_with (first | (at_builtin; refine app_u8 _ rfl (.tmp 10) (.tmp 16) rfl base rfl (hor.alloc _) rfl (m := 1) (news := [v / 2 ^ t % 256]) rfl (rd_one _ _ _ hib.out) (by omega) (by simp; omega) ?_; intro A1 c1 w1 hown1 hgrow1 _) | fail)
      go_roundg (8 - (j + 1))
      case measure => omega
      case rel =>
        refine ⟨j + 1, A1, c1, hlt, rfl, rfl, by have := Ht.out; go_num, (Hxr.out.alloc _).grown hgrow1 (fun k hk => Nat.le_trans hbase (own_ge hor k hk)), by have := hgrow1.size; simp at this; omega, ?_⟩
        rw [take_succ_of Hg.out, ← List.append_assoc]
        exact hown1
    · obtain rfl : j = 8 := by omega
      have e : (wordB v 8).take 8 = wordB v 8 := List.take_of_length_le (by rw [wordB_len]; omega)
      rw [e] at hor
      have Hor := Lib.hid hor
      clear hor e
      go_wp2_with fail
      go_ret
      exact ⟨A', c', rfl, Hor.out, Hxr.out, hsz⟩

/-- Request: an Op that is none -/
theorem req_bad (w : World) (op p N : Int) (A : Option Addr) (n c : Nat) (_h0 : 0 ≤ op) (h : op < 1 ∨ 6 < op) :
    Calls Try.prog 36 #[callV op p A n c N] w (RetBE [] 1 w) := by
  have q1 : (op == 1) = false := by rw [beq_eq_false_iff_ne]; omega
  have q2 : (op == 2) = false := by rw [beq_eq_false_iff_ne]; omega
  have q3 : (op == 3) = false := by rw [beq_eq_false_iff_ne]; omega
  have q4 : (op == 4) = false := by rw [beq_eq_false_iff_ne]; omega
  have q5 : (op == 5) = false := by rw [beq_eq_false_iff_ne]; omega
  have q6 : (op == 6) = false := by rw [beq_eq_false_iff_ne]; omega
  go_enter Try.func36, Try.ntmps36
  go_wp2_with fail
  go_ret2
  exact retBE_none ⟨rfl, (Ext.refl w).alloc _⟩
theorem req1_num (w : World) (p N : Int) (A : Option Addr) (n c : Nat) (h : N < 0 ∨ 4611686018427387903 < N) :
    Calls Try.prog 36 #[callV 1 p A n c N] w (RetBE [] 1 w) := by
  go_enter Try.func36, Try.ntmps36
  go_wp2_with fail
  refine (form_bad N _ h).mono ?_
  rintro e w1 ⟨rfl, rfl⟩
  go_wp2_with fail
  go_ret2
  exact retBE_none ⟨rfl, (Ext.refl w).alloc _⟩
theorem req1_err (w : World) (p N : Int) (A : Option Addr) (n c : Nat) (q : Int) (hq : (q == 0) = false) (h1 : 0 ≤ N) (h2 : N ≤ 4611686018427387903) (hI : ∀ w, Calls Try.prog 65 #[.int .i64 p, .slice A n c] w fun e w' => e = .returned (.tuple #[.slice none 0 0, .int .i64 q]) ∧ w = w') :
    Calls Try.prog 36 #[callV 1 p A n c N] w (RetBE [] q w) := by
  have HI := Lib.hid hI; clear hI
  have hq' : (q != 0) = true := by simp [bne, hq]
  go_enter Try.func36, Try.ntmps36
  go_wp2_with fail
  refine (form_ok N _ h1 h2).mono ?_
  rintro e w1 ⟨rfl, rfl⟩
  go_wp2_with fail
  refine (HI.out _).mono ?_
  rintro e w1 ⟨rfl, rfl⟩
  go_wp2_with fail
  go_ret2
  exact retBE_none ⟨rfl, (Ext.refl w).alloc _⟩
theorem req2_err (w : World) (p N : Int) (A : Option Addr) (n c : Nat) (q : Int) (hq : (q == 0) = false) (hI : ∀ w, Calls Try.prog 65 #[.int .i64 p, .slice A n c] w fun e w' => e = .returned (.tuple #[.slice none 0 0, .int .i64 q]) ∧ w = w') :
    Calls Try.prog 36 #[callV 2 p A n c N] w (RetBE [] q w) := by
  have HI := Lib.hid hI; clear hI
  have hq' : (q != 0) = true := by simp [bne, hq]
  go_enter Try.func36, Try.ntmps36
  go_wp2_with fail
  refine (HI.out _).mono ?_
  rintro e w1 ⟨rfl, rfl⟩
  go_wp2_with fail
  go_ret2
  exact retBE_none ⟨rfl, (Ext.refl w).alloc _⟩
theorem req4_err (w : World) (p N : Int) (A : Option Addr) (n c : Nat) (q : Int) (hq : (q == 0) = false) (hI : ∀ w, Calls Try.prog 65 #[.int .i64 p, .slice A n c] w fun e w' => e = .returned (.tuple #[.slice none 0 0, .int .i64 q]) ∧ w = w') :
    Calls Try.prog 36 #[callV 4 p A n c N] w (RetBE [] q w) := by
  have HI := Lib.hid hI; clear hI
  have hq' : (q != 0) = true := by simp [bne, hq]
  go_enter Try.func36, Try.ntmps36
  go_wp2_with fail
  refine (HI.out _).mono ?_
  rintro e w1 ⟨rfl, rfl⟩
  go_wp2_with fail
  go_ret2
  exact retBE_none ⟨rfl, (Ext.refl w).alloc _⟩
theorem own_b1 (w : World) (x : Int) (y : Nat) (h : x = (y : Int)) : (w.alloc (.cells #[.int .u8 x] 5)).ownsRow w.heap.size 5 1 (.slice (some ⟨w.heap.size, 0, none⟩) 1 1) 1 (vals .u8 [y]) := by
  subst h
  exact own1 w y
theorem req5_ok (w : World) (p N : Int) (A : Option Addr) (n c : Nat) :
    Calls Try.prog 36 #[callV 5 p A n c N] w (RetBE [5] 0 w) := by
  go_enter Try.func36, Try.ntmps36
  go_wp2_with fail
  go_ret2
  have h := own_b1 (w.alloc (.cells #[.int .u8 5, .int .i64 p, .slice A n c, .int .i64 N] 63)) 5 5 rfl
  rw [World.size_alloc] at h
  exact retBE_of rfl (own_base h (by omega)) (((Ext.refl w).alloc _).alloc _)
theorem req6_ok (w : World) (p N : Int) (A : Option Addr) (n c : Nat) :
    Calls Try.prog 36 #[callV 6 p A n c N] w (RetBE [6] 0 w) := by
  go_enter Try.func36, Try.ntmps36
  go_wp2_with fail
  go_ret2
  have h := own_b1 (w.alloc (.cells #[.int .u8 6, .int .i64 p, .slice A n c, .int .i64 N] 63)) 6 6 rfl
  rw [World.size_alloc] at h
  exact retBE_of rfl (own_base h (by omega)) (((Ext.refl w).alloc _).alloc _)
theorem req3_err (w : World) (p N : Int) (A : Option Addr) (n c : Nat) (xs : List Nat) (q : Int) (hq : (q == 0) = false) (hr : Rd w A (vals .u8 xs)) (hI : ∀ w, Rd w A (vals .u8 xs) → Calls Try.prog 30 #[tokV p A n c N] w (RetBE [] q w)) :
    Calls Try.prog 36 #[callV 3 p A n c N] w (RetBE [] q w) := by
  have HI := Lib.hid hI; have Hr := Lib.hid hr; clear hI hr
  have hq' : (q != 0) = true := by simp [bne, hq]
  go_enter Try.func36, Try.ntmps36
  go_wp2_with fail
  refine (HI.out _ (Hr.out.alloc _)).mono ?_
  rintro e w1 ⟨A1, c1, rfl, hown, hy⟩
  clear hown
  have hx : Ext w w1 := ((Ext.refl w).alloc _).trans hy
  go_wp2_with fail
  go_ret2
  exact retBE_none ⟨rfl, hx⟩
set_option maxHeartbeats 1000000 in
theorem req3_ok (w : World) (p N : Int) (A : Option Addr) (n c : Nat) (xs L : List Nat) (k : Nat) (hk : L.length = k) (hk' : k ≤ 1000) (hr : Rd w A (vals .u8 xs)) (hI : ∀ w, Rd w A (vals .u8 xs) → Calls Try.prog 30 #[tokV p A n c N] w (RetBE L 0 w)) :
    Calls Try.prog 36 #[callV 3 p A n c N] w (RetBE (3 :: L) 0 w) := by
  have HI := Lib.hid hI; have Hr := Lib.hid hr; have Hk := Lib.hid hk; clear hI hr hk
  go_enter Try.func36, Try.ntmps36
  go_wp2_with fail
  refine (HI.out _ (Hr.out.alloc _)).mono ?_
  rintro e w1 ⟨A1, c1, rfl, hown, hy⟩
  rw [Hk.out] at hown ⊢
  have hx : Ext w w1 := ((Ext.refl w).alloc _).trans hy
  have R1 := Lib.hid (Rd.of_own hown)
  have k0 : w1.cell? ⟨w.heap.size, 0, none⟩ = some (.int .u8 3) := by
    rw [hy.cell (p := ⟨w.heap.size, 0, none⟩) (by simp)]
    exact World.cell?_alloc_new _ _ _ _
  clear hown
  have hs : w.heap.size ≤ w1.heap.size := hx.size
  go_wp2_with (first | (at_builtin; refine app_u8 _ rfl (.tmp 35) (.tmp 36) rfl w1.heap.size rfl (own_b1 w1 3 3 rfl) rfl Hk.out (R1.out.alloc _) (by omega) (by simp) ?_; intro A2 c2 w2 hown2 hgrow2 _) | fail)
  go_ret2
  refine retBE_of ?_ (own_base hown2 hs) ((hx.alloc _).grown hgrow2 (fun q hq => by simp [Value.ownBlock] at hq; omega))
  show (3 :: L).length = _
  rw [List.length_cons, Hk.out, Nat.add_comm]
end Go.Proofs.Ythkdjjfnmlemdaa
