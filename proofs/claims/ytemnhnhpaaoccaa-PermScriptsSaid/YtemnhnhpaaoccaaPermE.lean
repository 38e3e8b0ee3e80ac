/- slices.Delete of one number. -/
import Derived.Test.YtemnhnhpaaoccaaPermD
namespace Go.Proofs.Ytemnhnhpaaoccaa
open Go.RowKit

def DelR (base : Nat) (A : Option Addr) (n c : Nat) (xs : List Int) (k : Nat) (w : World) (e : Ending) (w' : World) : Prop :=
  e = .returned (.slice A (n - 1) c) ∧ w'.ownsRow base 2 1 (.slice A (n - 1) c) (n - 1) (ivals (delL xs k)) ∧ w.grownBy w' (Value.slice A n c).ownBlock
theorem zero_i64 : ∀ w : World, (zeroValue 2).run Try.prog w = .ok (.int .i64 0) w := fun _ => by kernel_rfl
set_option maxHeartbeats 4000000 in
set_option maxRecDepth 100000 in
theorem delete_any (w : World) (base : Nat) (A : Option Addr) (n c k : Nat) (xs : List Int) (hl : xs.length = n) (hn : n ≤ 1000) (hk : k < n) (ho : w.ownsRow base 2 1 (.slice A n c) n (ivals xs)) :
    Calls Try.prog 29 #[.slice A n c, .int .i64 (k : Int), .int .i64 ((k : Int) + 1)] w (DelR base A n c xs k w) := by
  have hnc := own_cap ho
  obtain ⟨g, rfl, hg1, hg2⟩ := own_some ho (by omega)
  have hcm : c ≤ 9223372036854775807 := by
    rcases ho.2 with ⟨h3, h4⟩ | ⟨g, cap, cur, h3, _, _, _, h4, _⟩
    · omega
    · injection h3 with _ _ h3
      unfold maxLen at h4
      omega
  obtain ⟨i0, hi0, hz0, hz1, hz2⟩ := info_parts info_i64
  obtain ⟨news, hnews⟩ : ∃ news, (ivals xs).drop (k + 1) = news := ⟨_, rfl⟩
  have hlen : news.length = n - (k + 1) := by rw [← hnews, List.length_drop, ivals_len, hl]
  have hcell : ∀ j, j < n → w.cell? ⟨g, j, none⟩ = (ivals xs)[j]? := fun j hj => ho.cellAt j (by omega)
  obtain ⟨B, hA, hsrc⟩ : ∃ B : Addr, (if c = k + 1 then (some ⟨g, 0, none⟩ : Option Addr) else some ⟨g, k + 1, none⟩) = some B ∧ Hid (∀ t u, news[t]? = some u → w.drew.cell? (B.add t) = some u) := by
    by_cases h : c = k + 1
    · refine ⟨⟨g, 0, none⟩, by simp [h], fun t u hu => ?_⟩
      have h0 : news.length = 0 := by rw [hlen]; omega
      rw [List.length_eq_zero_iff.1 h0] at hu
      simp at hu
    · refine ⟨⟨g, k + 1, none⟩, by simp [h], fun t u hu => ?_⟩
      have ht : t < n - (k + 1) := by rw [← hlen]; exact (List.getElem?_eq_some_iff.1 hu).1
      rw [Addr.add_lit]
      refine (hcell (k + 1 + t) (by omega)).trans ?_
      rw [← hu, ← hnews, List.getElem?_drop]
  have s1 : Hid (news.length = (n - (k + 1)) * 1) := by rw [Nat.mul_one]; exact hlen
  have s2 : Hid (∀ u ∈ news, u.oneCell' = true) := fun u hu => ivals_one xs u (by rw [← hnews] at hu; exact List.mem_of_mem_drop hu)
  have s3 : Hid (∀ t, t < news.length → (w.drew.cell? ⟨g, 0 + k * 1 + t, none⟩).isSome = true ∧ w.drew.frozen? ⟨g, 0 + k * 1 + t, none⟩ = false) := fun t ht => by
    rw [hlen] at ht
    rw [Nat.mul_one, Nat.zero_add]
    refine ⟨?_, ho.frozenAt _⟩
    show (w.cell? _).isSome = true
    rw [hcell _ (by omega), List.getElem?_eq_getElem (by rw [ivals_len, hl]; omega)]; rfl
  obtain ⟨W1, hW1⟩ : ∃ W1, W1 = w.drew.setCells g (0 + k * 1) news := ⟨_, rfl⟩
  have hp1 := own_put news w.drew _ (0 + k * 1) ho.drew
  rw [← hW1] at hp1
  obtain ⟨hm1, hG1⟩ := hp1
  rw [Nat.mul_one, Nat.zero_add] at hm1
  have hput1 : putAt (ivals xs) k news = (ivals xs).take k ++ (news ++ (ivals xs).drop (k + news.length)) := putAt_eq _ _ _ (by rw [ivals_len, hl, hlen]; omega)
  have hlen1 : (putAt (ivals xs) k news).length = n := by rw [hput1]; simp [ivals_len, hl, hlen]; omega
  have hcl : ∀ ty, (Builtin.clear_ #[22] ty #[.slice (some ⟨g, k + (n - (k + 1)), none⟩) (n - (k + (n - (k + 1)))) (c - (k + (n - (k + 1))))]).run Try.prog W1 = .ok (.tuple #[]) (W1.setCells g (k + (n - (k + 1))) (List.replicate (n - (k + (n - (k + 1)))) (.int .i64 0))) :=
    fun ty => Lib.run_clear_slice W1 _ _ ty _ Try.underlying22 zero_i64 rfl rfl g (k + (n - (k + 1))) _ _ (by omega) (fun t ht => by
      rw [hm1.cellAt _ (by omega), List.getElem?_eq_getElem (by rw [hlen1]; omega)]; rfl) (fun t _ => hm1.frozenAt _)
  obtain ⟨W2, hW2⟩ : ∃ W2, W1.setCells g (k + (n - (k + 1))) (List.replicate (n - (k + (n - (k + 1)))) (.int .i64 0)) = W2 := ⟨_, rfl⟩
  have hp2 := own_put (List.replicate (n - (k + (n - (k + 1)))) (Value.int .i64 0)) W1 _ (k + (n - (k + 1))) hm1
  rw [hW2] at hp2 hcl
  have hfin : (putAt (putAt (ivals xs) k news) (k + (n - (k + 1))) (List.replicate (n - (k + (n - (k + 1)))) (Value.int .i64 0))).take (n - 1) = ivals (delL xs k) := by
    rw [putAt_eq _ _ _ (by rw [hlen1, List.length_replicate]; omega), show k + (n - (k + 1)) = n - 1 by omega]
    rw [List.take_left' (by rw [List.length_take, hlen1]; omega), hput1, ← List.append_assoc]
    rw [List.take_left' (by simp [ivals_len, hl, hlen]; omega), ← hnews]
    simp [ivals, delL, List.map_take, List.map_drop]
  have Fin := Lib.hid (show DelR base (some ⟨g, 0, none⟩) n c xs k w (.returned (.slice (some ⟨g, 0, none⟩) (n - 1) c)) W2 from ⟨rfl, by rw [← hfin]; exact own_sub hp2.1 (by omega), World.grown_trans (grown_undrew hG1) hp2.2⟩)
  have hW : Hid (W1 = w.drew.setCells g (0 + k * 1) news) := hW1
  have hic : k ≤ c := by omega
  have hjc : k + 1 ≤ c := by omega
  have hkn : k + 1 ≤ n := by omega
  have hw1 : IntKind.i64.wrap ((k : Int) + 1) = (k : Int) + 1 := by rw [IntKind.wrap_i64]; omega
  have hz2 : ¬ ((k : Int) = (k : Int) + 1) := by omega
  have hb1 : (0 : Int) ≤ (k : Int) + 1 := by omega
  have htn : ((k : Int) + 1).toNat = k + 1 := by omega
  have hb3 : (k : Int) + 1 ≤ (n : Int) := by omega
  have hb4 : (k : Int) ≤ (k : Int) + 1 := by omega
  have hb6 : (k : Int) + 1 ≤ (c : Int) := by omega
  have mixed : Try.prog.follows Departure.mixedOrders = true := by kernel_rfl
  clear hW1 hp2 hfin hm1 hG1 hput1 hlen1 hcell hlen hnews ho hl hW2 hg1 hg2
  go_enter Try.func29, Try.ntmps29
  go_wp2_with fail
  go_region_law_o (refine step_append_room rfl (.tmp 22) (.tmp 25) 22 rfl 2 i0 1 Try.underlying22 hi0 hz1 g 0 k c (by simp [Act.eval, Act.put]) B (n - (k + 1)) (c - (k + 1)) news (by simp [Act.eval, Act.put]) s1.out hsrc.out s2.out (by omega) s3.out ?_; rw [← hW.out])
  go_wp2
  go_ret
  have e : k + (n - (k + 1)) = n - 1 := by omega
  first | exact Fin.out | (rw [e]; exact Fin.out)
end Go.Proofs.Ytemnhnhpaaoccaa
