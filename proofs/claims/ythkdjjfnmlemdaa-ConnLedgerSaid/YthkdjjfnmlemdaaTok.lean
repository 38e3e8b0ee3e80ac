/- token.word, token.Encode. -/
import Derived.Test.YthkdjjfnmlemdaaWord
import Derived.Test.YthkdjjfnmlemdaaIdent
import Derived.Test.YthkdjjfnmlemdaaHashA
import Derived.Deep.RegionWith
namespace Go.Proofs.Ythkdjjfnmlemdaa
open Go.RowKit

theorem wordB_drop (v n : Nat) : ∀ j, j ≤ n → (wordB v n).drop j = wordB v (n - j) := by
  induction n with
  | zero => intro j hj; obtain rfl : j = 0 := by omega
            rfl
  | succ n ih =>
    intro j hj
    cases j with
    | zero => rfl
    | succ j => rw [wordB, List.drop_succ_cons, ih j (by omega)]; congr 1; omega
theorem wordB_get (v n j : Nat) (h : j < n) : (wordB v n)[j]? = some (v / 256 ^ (n - 1 - j) % 256) := by
  have e := wordB_drop v n j (by omega)
  have e2 : n - j = (n - 1 - j) + 1 := by omega
  rw [e2, wordB] at e
  rw [← List.head?_drop, e]
  rfl

theorem rd_one (w : World) (X : Int) (y : Nat) (h : X = (y : Int)) : Rd (w.alloc (.cells #[.int .u8 X] 5)) (some ⟨w.heap.size, 0, none⟩) (vals .u8 [y]) := by
  subst h
  exact rd_new w [.int .u8 (y : Int)] _
theorem shr_byte (v i : Nat) : ((v : Int) / 2 ^ (8 * i) % 256) = ((v / 256 ^ i % 256 : Nat) : Int) := by
  rw [show (256 : Nat) ^ i = 2 ^ (8 * i) from (Nat.pow_mul 2 8 i).symm]
  simp only [Int.natCast_emod, Int.natCast_ediv, Int.natCast_pow]
  rfl
set_option maxHeartbeats 2000000 in
theorem tokWord_any (w w0 : World) (base : Nat) (A : Option Addr) (m c : Nat) (xs : List Nat) (v n : Nat) (hl : xs.length = m) (ho : w.ownsRow base 5 1 (.slice A m c) m (vals .u8 xs)) (hx : Ext w0 w) (hbase : w0.heap.size ≤ base) (hbw : base ≤ w.heap.size)
    (_hv : v < 18446744073709551616) (hn : n ≤ 8) (hm : m ≤ 1000000) :
    Calls Try.prog 66 #[.slice A m c, .int .u64 (v : Int), .int .i64 (n : Int)] w fun e w' => ∃ A' c', e = .returned (.slice A' (m + n) c') ∧ w'.ownsRow base 5 1 (.slice A' (m + n) c') (m + n) (vals .u8 (xs ++ wordB v n)) ∧ Ext w0 w' ∧ w.heap.size ≤ w'.heap.size := by
  have Ho := Lib.hid ho; have Hl := Lib.hid hl; clear ho hl
  go_enter Try.func66, Try.ntmps66
  go_wp2_with fail
  go_loopg [0, 7] n (fun g v0 v7 wr => ∃ (j : Nat) (A' : Option Addr) (c' : Nat), j ≤ n ∧ g = n - j ∧ v0 = .slice A' (m + j) c' ∧ v7 = .int .i64 ((n : Int) - 1 - (j : Int)) ∧ Ext w0 wr ∧ w.heap.size ≤ wr.heap.size ∧
    wr.ownsRow base 5 1 (.slice A' (m + j) c') (m + j) (vals .u8 (xs ++ (wordB v n).take j)))
  case atStart =>
    exact ⟨0, A, c, Nat.zero_le _, rfl, rfl, by go_num, hx, Nat.le_refl _, by simpa using Ho.out⟩
  case round =>
    obtain ⟨j, A', c', hj, rfl, rfl, rfl, hxr, hsz, hor⟩ := hrel
    have Hxr := Lib.hid hxr; clear hxr
    by_cases hlt : j < n
    · have hg := Lib.hid (wordB_get v n j hlt)
      obtain ⟨i, hi⟩ : ∃ i, i = n - 1 - j := ⟨_, rfl⟩
      have hi7 : i ≤ 7 := by omega
      have hji : ((n : Int) - 1 - (j : Int)) = (i : Int) := by omega
      rw [hji]
      rw [← hi] at hg
      have Hi := Lib.hid hi; clear hi hji
      have hs1 : wr.heap.size ≥ base := by omega
      have hib := Lib.hid (shr_byte v i)
      go_wp2_with (first | (at_builtin; refine app_u8 _ rfl (.tmp 14) (.tmp 20) rfl base rfl (hor.alloc _) rfl (m := 1) (news := [v / 256 ^ i % 256]) rfl (rd_one _ _ _ hib.out) (by omega) (by simp; omega) ?_; intro A1 c1 w1 hown1 hgrow1 _) | fail)
      go_roundg (n - (j + 1))
      case measure => omega
      case rel =>
        refine ⟨j + 1, A1, c1, hlt, rfl, rfl, by have := Hi.out; go_num, (Hxr.out.alloc _).grown hgrow1 (fun k hk => Nat.le_trans hbase (own_ge hor k hk)), by have := hgrow1.size; simp at this; omega, ?_⟩
        rw [take_succ_of hg.out, ← List.append_assoc]
        exact hown1
    · obtain rfl : j = n := by omega
      have e : (wordB v j).take j = wordB v j := List.take_of_length_le (by rw [wordB_len]; omega)
      rw [e] at hor
      have Hor := Lib.hid hor
      clear hor e
      go_wp2_with fail
      go_ret
      exact ⟨A', c', rfl, Hor.out, Hxr.out, hsz⟩
end Go.Proofs.Ythkdjjfnmlemdaa
