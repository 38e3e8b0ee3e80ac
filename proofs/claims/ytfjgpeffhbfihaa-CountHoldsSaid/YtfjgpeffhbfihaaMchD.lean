/- mach: Last; the document's first example. -/
import Derived.Test.YtfjgpeffhbfihaaMchC
namespace Go.Proofs.Ytfjgpeffhbfihaa
open Go.RowKit

theorem last_n (l n : Nat) (L : List AccE) (kk : Nat) (h4 : l + kk = L.length) (hn : n ≤ 64) (h6 : kk = 0 ∨ 64 ≤ l) : ∃ m k : Nat, max 0 ((l : Int) - (n : Int)) = (m : Int) ∧ k = min n L.length ∧ m ≤ l ∧ l = k + m ∧ k ≤ 64 ∧ (L.drop kk).drop m = L.drop (L.length - k) ∧ (L.drop (L.length - k)).length = k := by
  refine ⟨l - n, min n L.length, by omega, rfl, by omega, by omega, by omega, ?_, by simp; omega⟩
  rw [List.drop_drop]
  congr 1
  omega
/-- the last accesses -/
def RetL (n : Nat) (L : List AccE) (w : World) (e : Ending) (w' : World) : Prop :=
  ∃ A c, e = .returned (.tuple #[.slice A (min n L.length) c, .int .i64 0]) ∧ w'.ownsRow w.heap.size 42 6 (.slice A (min n L.length) c) (min n L.length) (accs (L.drop (L.length - min n L.length))) ∧ Ext w w'
set_option maxHeartbeats 800000 in
theorem last_ok (w : World) (F : Nat → Prop) (g : Nat) (ws : List Nat) (clk : Int) (L : List AccE) (n : Nat) (h : MachAt w F g ws clk L) (hn : n ≤ 64) :
    Calls Try.prog 15 #[.pointer (some ⟨g, 0, none⟩), .int .i64 (n : Int)] w (RetL n L w) := by
  obtain ⟨gw, B, l, cb, kk, h1, h2, h3, h4, h5, h6, _⟩ := h
  have hl128 : (l : Int) ≤ 128 := by omega
  obtain ⟨m, k, hm1, hk, hm2, hlk, hk64, hm4, hlen⟩ := last_n l n L kk h4 hn h6
  unfold RetL
  rw [← hk]
  have b3 : w.cell? ⟨g, 3, none⟩ = some (.slice B l cb) := blk_cell h1 3
  have a1 : ¬ (n : Int) < 0 := by omega
  have a2 : ¬ 64 < (n : Int) := by omega
  have hcm : l ≤ maxLen := by unfold maxLen; omega
  have hcap : l ≤ cb := own_cap h3
  obtain ⟨A', hsl, hrd, hblk, _⟩ := slice_from_s Try.underlying37 size_acc (A := B) (n := l) (c := cb) (m := k) (d := cb - m) m (ki := (m : Int)) rfl hcap hlk (by omega)
  have hr0 : Rd w B (accs (L.drop kk)) := by
    intro hne
    have hpos : 0 < l := by
      rcases Nat.eq_zero_or_pos l with h | h
      · exact absurd (by rw [List.drop_of_length_le (by omega)]; rfl) hne
      · exact h
    obtain ⟨q, rfl, _, _⟩ := own_block h3 hpos
    exact ⟨q, 0, rfl, fun j u hu => by rw [Nat.zero_add, h3.cellAt j (by have := (List.getElem?_eq_some_iff.1 hu).1; have := h3.1; omega)]; exact hu⟩
  have hr1 : Rd w A' (accs (L.drop (L.length - k))) := by
    have := hrd w _ h3.1 hr0
    rwa [← accs_drop, hm4] at this
  have CL := Lib.hid (fun (u : World) (hx : Ext w u) => cloneA_n A' k (cb - m) _ u hlen (by omega) (hr1.ext hx))
  have CL0 := Lib.hid (fun (hm : m = 0) (u : World) (hx : Ext w u) => cloneA_n B k cb (L.drop (L.length - k)) u hlen (by omega) (by
    subst hm
    have h := hr0.ext hx
    rw [← hm4]
    simpa using h))
  have hwr : IntKind.i64.wrap ((l : Int) - (n : Int)) = (l : Int) - (n : Int) := by rw [IntKind.wrap_i64]; unfold maxLen at hcm; omega
  have HC := Lib.hid hcap
  clear hr0 hr1 hrd hblk h1 h2 h3 h4 hk hm4 hlen hcap
  have hlt0 : (0 : Int) ≤ (m : Int) := by omega
  have hml : (m : Int) ≤ (l : Int) := by omega
  have hlc : (l : Int) ≤ (cb : Int) := by have := HC.out; omega
  by_cases hnl : n < l
  · have he : (l : Int) - (n : Int) = (m : Int) := by omega
    have hm0 : 0 < m := by omega
    rw [he] at hwr
    clear hm1
    have hm0' : (0 : Int) < (m : Int) := by omega
    clear hlk
    go_enter Try.func15, Try.ntmps15
    go_wp2_with fail
    go_region_held3 (fun w' => w'.cell? ⟨g, 3, none⟩ = some (.slice B l cb))
      (first | assumption | (with_reducible exact drew_cell b3) | (with_reducible exact ext_cell ((Ext.refl w).drew.trans x8) b3))
      ((go_at_call 41; (with_reducible refine (CL.out _ (Ext.refl w).drew).mono ?_); rintro e w8 ⟨A8, c8, rfl, o8, x8⟩))
    all_goals
      go_wp2_with fail
      go_ret2
      exact ⟨A8, c8, rfl, o8, (Ext.refl w).drew.trans x8⟩
  · have hm : m = 0 := by omega
    have CLz := Lib.hid (CL0.out hm)
    have hlk' : l = k := by omega
    clear hlk CL CL0
    subst hlk'
    subst hm
    have hnl' : ¬ (n : Int) < (l : Int) := by omega
    clear hm1
    go_enter Try.func15, Try.ntmps15
    go_wp2_with fail
    go_region_held3 (fun w' => w'.cell? ⟨g, 3, none⟩ = some (.slice B l cb))
      (first | assumption | (with_reducible exact drew_cell b3) | (with_reducible exact ext_cell ((Ext.refl w).drew.trans x8) b3))
      ((go_at_call 41; (with_reducible refine (CLz.out _ (Ext.refl w).drew).mono ?_); rintro e w8 ⟨A8, c8, rfl, o8, x8⟩))
    all_goals
      go_wp2_with fail
      go_ret2
      exact ⟨A8, c8, rfl, o8, (Ext.refl w).drew.trans x8⟩
end Go.Proofs.Ytfjgpeffhbfihaa
