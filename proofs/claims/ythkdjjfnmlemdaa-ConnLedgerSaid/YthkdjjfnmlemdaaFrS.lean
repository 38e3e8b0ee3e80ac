/- The document's Same of two lists of lists of bytes. -/
import Derived.Test.YthkdjjfnmlemdaaFrE
namespace Go.Proofs.Ythkdjjfnmlemdaa
open Go.RowKit

/-- reads as a list of lists of bytes -/
def RdBB (w : World) (A : Option Addr) (pss : List (List Nat)) : Prop :=
  ∃ vs : List Value, vs.length = pss.length ∧ Rd w A vs ∧ ∀ (i : Nat) (ps : List Nat), pss[i]? = some ps → ∃ (Ai : Option Addr) (ci : Nat), vs[i]? = some (Value.slice Ai ps.length ci) ∧ ps.length ≤ ci ∧ Rd w Ai (vals .u8 ps)
theorem PL.rd {w : World} {base : Nat} {A : Option Addr} {n c : Nat} {pss : List (List Nat)} (h : PL w base A n c pss) : RdBB w A pss := by
  obtain ⟨hl, vs, gs, ho, _, _, _, hall⟩ := h
  refine ⟨vs, by rw [hl]; have := ho.1; omega, Rd.of_own ho, fun i ps hi => ?_⟩
  obtain ⟨g, ci, _, h2, h3⟩ := hall i ps hi
  exact ⟨_, ci, h2, own_cap h3, Rd.of_own h3⟩
theorem RdBB.ext {w w' : World} {A : Option Addr} {pss : List (List Nat)} (h : RdBB w A pss) (hx : Ext w w') : RdBB w' A pss := by
  obtain ⟨vs, hl, hr, hall⟩ := h
  exact ⟨vs, hl, hr.ext hx, fun i ps hi => by
    obtain ⟨Ai, ci, h1, h2, h3⟩ := hall i ps hi
    exact ⟨Ai, ci, h1, h2, h3.ext hx⟩⟩
theorem RdBB.at_ {w : World} {A : Option Addr} {pss : List (List Nat)} (h : RdBB w A pss) {k : Nat} {ps : List Nat} (hk : pss[k]? = some ps) :
    ∃ b off Ai ci, A = some ⟨b, off, none⟩ ∧ w.cell? ⟨b, off + k, none⟩ = some (.slice Ai ps.length ci) ∧ ps.length ≤ ci ∧ Rd w Ai (vals .u8 ps) := by
  obtain ⟨vs, hl, hr, hall⟩ := h
  obtain ⟨Ai, ci, h1, h2, h3⟩ := hall k ps hk
  obtain ⟨b, off, hA, hc⟩ := hr (by intro e; rw [e] at h1; simp at h1)
  exact ⟨b, off, Ai, ci, hA, hc k _ h1, h2, h3⟩

set_option maxHeartbeats 1000000 in
theorem refSame_true (w : World) (A B : Option Addr) (n c d : Nat) (pss : List (List Nat)) (hl : pss.length = n) (hn : n ≤ 9223372036854775807) (hb : ∀ ps ∈ pss, ps.length ≤ 9223372036854775807 ∧ ∀ x ∈ ps, x < 256) (hA : RdBB w A pss) (hB : RdBB w B pss) :
    Calls Try.prog 25 #[.slice A n c, .slice B n d] w (RetQ (.bool true) w) := by
  have Hl := Lib.hid hl; have HA := Lib.hid hA; have HB := Lib.hid hB; have Hb := Lib.hid hb; clear hl hA hB hb
  go_enter Try.func25, Try.ntmps25
  go_wp2_with fail
  go_loopw [13] (fun i wr => ∃ k q : Nat, k ≤ n ∧ i = .int .i64 k ∧ wr = w.drewN q) (fun i _ => n - (intOf i).toNat)
  case atStart => exact ⟨0, 0, Nat.zero_le _, rfl, rfl⟩
  case round =>
    obtain ⟨k, q, hk, rfl, rfl⟩ := hrel
    by_cases hlt : k < n
    · obtain ⟨ps, hps⟩ : ∃ ps, pss[k]? = some ps := ⟨_, List.getElem?_eq_getElem (by rw [Hl.out]; exact hlt)⟩
      have hbp := Hb.out ps (List.mem_of_getElem? hps)
      obtain ⟨b, off, Ai, ci, hA, hc, _, hr⟩ := HA.out.at_ hps
      obtain ⟨b', off', Bi, di, hB, hc', _, hr'⟩ := HB.out.at_ hps
      have C := Lib.hid (fun q => same_any Ai Bi ps.length ci ps.length di ps ps (w.drewN q) rfl rfl hbp.1 hbp.2 hbp.2 hr hr')
      rw [show same ps ps = true from decide_eq_true rfl] at C
      clear hr hr' hps hbp
      subst hA hB
      go_wp2_with fail
      go_quiet ((go_at_call 20; first | exact quiet_add_q (C.out _) | exact quiet_q (C.out _)))
      go_wp2_with fail
      go_roundw
      case rel => exact ⟨k + 1, _, by omega, by go_num, by first | rfl | (simp only [drewN_add]; rfl)⟩
      case measure => simp [intOf]; omega
    · go_wp2_with fail
      go_ret
      exact ⟨rfl, q, rfl⟩
end Go.Proofs.Ythkdjjfnmlemdaa
