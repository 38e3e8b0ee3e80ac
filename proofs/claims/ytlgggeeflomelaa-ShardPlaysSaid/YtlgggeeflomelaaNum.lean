/- spigotref01: Norm, Word, Fits, Held, Plus, Clamp, Add. -/
import Derived.Test.YtlgggeeflomelaaProg
import Derived.Test.YtlgggeeflomelaaNumPlain
import Derived.Outline
import Derived.BigQuiet
import Derived.WalkLawsBesides
import Derived.Deep.LoopGhost
namespace Go.Proofs.Ytlgggeeflomelaa
open Go.RowKit

theorem info_u64 : (Try.prog.info? 122).map (fun i => (i.zero, i.size, i.bytes)) = some (some (.int .u64 0), 1, 8) := by kernel_rfl
theorem size_u64 : ∀ u : World, (sizeOf 122).run Try.prog u = .ok 1 u := fun _ => by kernel_rfl
theorem slice_to_opt {P : Program} {t e : TypeId} (ht : P.underlying t = some (.slice e)) (hz : ∀ u : World, (sizeOf e).run P u = .ok 1 u) {A : Option Addr} {n c : Nat} (k : Nat) (h1 : k ≤ c) (hA : ∀ a, A = some a → a.spot = none) (u : World) :
    (Instr.slice t (.slice A n c) none (some (.int .i64 (k : Int))) none).run P u = .ok (.slice A k c) u := by
  have he : P.elem t = e := by simp [Program.elem, ht]
  rw [run_slice_h (P := P) u t _ n c (by rw [he]; exact ht) .i64 (k : Int) (by omega) (by omega)]
  rw [he, hz]
  cases A with
  | none => simp [Result.andThen, sliced, Int.toNat_natCast]
  | some a =>
    obtain ⟨b, off, s⟩ := a
    obtain rfl : s = none := hA _ rfl
    simp [Result.andThen, sliced, Int.toNat_natCast, Addr.add]
/-- Norm's answer: the list up to n -/
def RetN (A : Option Addr) (c : Nat) (xs : List Nat) (w : World) (e : Ending) (w' : World) : Prop :=
  ∃ n, e = .returned (.slice A n c) ∧ n ≤ xs.length ∧ numD (xs.take n) = numD xs ∧ NormD (xs.take n) ∧ w = w'
set_option maxHeartbeats 400000 in
theorem rnorm_any (w : World) (A : Option Addr) (m c : Nat) (xs : List Nat) (hl : xs.length = m) (hm : m ≤ 1000) (hc : m ≤ c) (hA : ∀ a, A = some a → a.spot = none) (hr : Rd w A (vals .u64 xs)) :
    Calls Try.prog 104 #[.slice A m c] w (RetN A c xs w) := by
  have Hl := Lib.hid hl; have Hr := Lib.hid hr; have HA := Lib.hid hA
  clear hl hr hA
  go_enter Try.func104, Try.ntmps104
  go_wp2
  go_loop [3] (fun v => ∃ n : Nat, n ≤ m ∧ v = .int .i64 (n : Int) ∧ ∀ j d, n ≤ j → xs[j]? = some d → d = 0) (fun v => (intOf v).toNat)
  case atStart => exact ⟨m, Nat.le_refl _, rfl, fun j d hj hd => by have := (List.getElem?_eq_some_iff.1 hd).1; have := Hl.out; omega⟩
  case round =>
    obtain ⟨n, hn, rfl, hz⟩ := hrel
    have HZ := Lib.hid hz
    clear hz
    have fin : NormD (xs.take n) → RetN A c xs w (.returned (.slice A n c)) w := fun h => ⟨n, rfl, by rw [Hl.out]; exact hn, numD_take xs n HZ.out, h, rfl⟩
    have FIN := Lib.hid fin
    clear fin
    cases n with
    | zero =>
      have hsl := slice_to_opt (P := Try.prog) Try.underlying165 size_u64 (A := A) (n := m) (c := c) 0 (by omega) HA.out
      go_wp2
      go_ret
      exact FIN.out (.inl (by simp))
    | succ n =>
      obtain ⟨x, hx⟩ := get_of_lt (xs := xs) (j := n) (by rw [Hl.out]; omega)
      obtain ⟨b, off, hA, _, hcell⟩ := Hr.out.at_ hx
      have Hx := Lib.hid hx
      subst hA
      clear hx
      have e1 : IntKind.i64.wrap (((n + 1 : Nat) : Int) - 1) = (n : Int) := by rw [IntKind.wrap_i64]; omega
      by_cases h0 : x = 0
      · subst h0
        go_wp2
        go_round
        case rel => exact ⟨n, by omega, rfl, fun j d hj hd => by
          by_cases e : j = n
          · subst e
            rw [Hx.out] at hd
            injection hd with hd
            exact hd.symm
          · exact HZ.out j d (by omega) hd⟩
        case measure => simp [intOf]
      · have hd : ((x : Int) == 0) = false := by rw [beq_eq_false_iff_ne]; omega
        have hsl := slice_to_opt (P := Try.prog) Try.underlying165 size_u64 (A := some ⟨b, off, none⟩) (n := m) (c := c) (n + 1) (by omega) HA.out
        go_wp2
        go_ret
        exact FIN.out (.inr ⟨xs.take n, x, take_succ_of Hx.out, by omega⟩)
end Go.Proofs.Ytlgggeeflomelaa
