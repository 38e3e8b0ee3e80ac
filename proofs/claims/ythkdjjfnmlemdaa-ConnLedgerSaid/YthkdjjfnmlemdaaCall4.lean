/- wire.reader's call, whole. -/
import Derived.Test.YthkdjjfnmlemdaaCall3
namespace Go.Proofs.Ythkdjjfnmlemdaa
open Go.RowKit

/-- bytes that begin with a right call's -/
def Begins (zs : List Nat) (op p : Nat) (xs : List Nat) (N : Nat) (rest : List Nat) : Prop := NormC op p xs N ∧ zs = reqB op p xs N ++ rest ∧ (op = 3 → rest = [])
theorem reqB_1 (p : Nat) (xs : List Nat) (N : Nat) : reqB 1 p xs N = 1 :: p :: xs.length :: (xs ++ wordB N 8) := rfl
theorem reqB_2 (p : Nat) (xs : List Nat) (N : Nat) : reqB 2 p xs N = 2 :: p :: xs.length :: xs := by simp [reqB]
theorem reqB_4 (p : Nat) (xs : List Nat) (N : Nat) : reqB 4 p xs N = 4 :: p :: xs.length :: xs := by simp [reqB]
theorem norm_1 {p N : Nat} {xs : List Nat} (h1 : p < 32) (h2 : xs.length ≤ 255) (h3 : N ≤ 4611686018427387903) (hb : ∀ x ∈ xs, x < 256) : NormC 1 p xs N :=
  ⟨⟨by omega, by omega, fun _ => ⟨h1, h2⟩, fun _ => h3, fun h => by omega⟩, hb, fun h => by omega, fun h => by omega⟩
theorem norm_24 {o p : Nat} {xs : List Nat} (ho : o = 2 ∨ o = 4) (h1 : p < 32) (h2 : xs.length ≤ 255) (hb : ∀ x ∈ xs, x < 256) : NormC o p xs 0 :=
  ⟨⟨by omega, by omega, fun _ => ⟨h1, h2⟩, fun h => by omega, fun h => by omega⟩, hb, fun h => by omega, fun _ => rfl⟩
theorem norm_56 {o : Nat} (ho : o = 5 ∨ o = 6) : NormC o 0 [] 0 :=
  ⟨⟨by omega, by omega, fun h => by omega, fun h => by omega, fun h => by omega⟩, by simp, fun _ => ⟨rfl, rfl, rfl⟩, fun _ => rfl⟩
theorem reqB_56 {o : Nat} (ho : o = 5 ∨ o = 6) (p : Nat) (xs : List Nat) (N : Nat) : reqB o p xs N = [o] := by unfold reqB; rw [if_neg (by omega), if_pos ho]
theorem reqB_3 (p : Nat) (xs : List Nat) (N : Nat) : reqB 3 p xs N = 3 :: tokB p xs N := rfl

theorem call_good (zs : List Nat) (op p : Nat) (xs : List Nat) (N : Nat) (rest : List Nat) (hb : ∀ x ∈ zs, x < 256) (h : Begins zs op p xs N rest) (w : World) (r S : Nat) (hS : S ≤ w.heap.size) (hw : IsWs w r S zs) :
    Calls Try.prog 78 #[.pointer (some ⟨r, 0, none⟩)] w (CallR op p xs N rest w r S) := by
  obtain ⟨⟨⟨h1, h2, h3, h4, h5⟩, hxb, h6, h7⟩, rfl, h8⟩ := h
  have hops : op = 1 ∨ op = 2 ∨ op = 3 ∨ op = 4 ∨ (op = 5 ∨ op = 6) := by omega
  rcases hops with rfl | rfl | rfl | rfl | h56
  · obtain ⟨hp, hx⟩ := h3 (by omega)
    rw [reqB_1] at hw hb
    refine call1_ok w r S p N xs rest hS hxb hp hx (h4 rfl) (fun x hx => hb x (by simp [hx])) ?_
    simpa using hw
  · obtain ⟨hp, hx⟩ := h3 (by omega)
    obtain rfl := h7 (.inl rfl)
    rw [reqB_2] at hw
    exact call2_ok w r S p xs rest hS hxb hp hx (by simpa using hw)
  · obtain ⟨hp, hx⟩ := h3 (by omega)
    obtain rfl := h8 rfl
    rw [reqB_3] at hw
    obtain ⟨k1, k2⟩ := h5 rfl
    exact call3_ok w r S p N xs hS hxb hp k1 k2 hx (by simpa using hw)
  · obtain ⟨hp, hx⟩ := h3 (by omega)
    obtain rfl := h7 (.inr rfl)
    rw [reqB_4] at hw
    exact call4_ok w r S p xs rest hS hxb hp hx (by simpa using hw)
  · obtain ⟨rfl, rfl, rfl⟩ := h6 (by omega)
    rw [reqB_56 h56] at hw
    exact call56 w r S op hS h56 rest (by simpa using hw)
theorem call_wrong (zs : List Nat) (hb : ∀ x ∈ zs, x < 256) (hl : zs.length ≤ 4096) (h : ¬ ∃ op p xs N rest, Begins zs op p xs N rest) (w : World) (r S : Nat) (hS : S ≤ w.heap.size) (hw : IsWs w r S zs) :
    Calls Try.prog 78 #[.pointer (some ⟨r, 0, none⟩)] w (WrongR w r) := by
  match zs, hb, hl, h, hw with
  | [], _, _, _, hw => exact call_nil w r S hw
  | o :: z, hb, hl, h, hw =>
    have hzb : ∀ x ∈ z, x < 256 := fun x hx => hb x (by simp [hx])
    by_cases ho : o = 0 ∨ 7 ≤ o
    · exact call_op w r S o hS ho z hw
    by_cases h56 : o = 5 ∨ o = 6
    · exact absurd ⟨o, 0, [], 0, z, norm_56 h56, by rw [reqB_56 h56]; rfl, fun h => by omega⟩ h
    by_cases h3 : o = 3
    · subst h3
      refine call3_bad w r S z hS hzb (by simp at hl; omega) (fun ht => h ?_) hw
      obtain ⟨p, s, xs, hp, h1, h2, hx, hxb, rfl⟩ := ht
      exact ⟨3, p, xs, s, [], ⟨⟨by omega, by omega, fun _ => ⟨hp, hx⟩, fun h => by omega, fun _ => ⟨h1, h2⟩⟩, hxb, fun h => by omega, fun h => by omega⟩, by rw [reqB_3]; simp, fun _ => rfl⟩
    have h124 : o = 1 ∨ o = 2 ∨ o = 4 := by omega
    match z, hzb, hl, h, hw with
    | [], _, _, _, hw =>
      rcases h124 with rfl | rfl | rfl
      · exact call1_few w r S [] hS (by decide) hw
      · exact call2_few w r S [] hS (by decide) hw
      · exact call4_few w r S [] hS (by decide) hw
    | [a], _, _, _, hw =>
      rcases h124 with rfl | rfl | rfl
      · exact call1_few w r S [a] hS (by simp) hw
      · exact call2_few w r S [a] hS (by simp) hw
      · exact call4_few w r S [a] hS (by simp) hw
    | p :: k :: t, hzb, hl, h, hw =>
      have hk : k < 256 := hzb k (by simp)
      have htb : ∀ x ∈ t, x < 256 := fun x hx => hzb x (by simp [hx])
      by_cases hp : 32 ≤ p
      · rcases h124 with rfl | rfl | rfl
        · exact call1_pol w r S p k t hS hp hw
        · exact call2_pol w r S p k t hS hp hw
        · exact call4_pol w r S p k t hS hp hw
      by_cases hlt : t.length < k
      · rcases h124 with rfl | rfl | rfl
        · exact call1_key w r S p k t hS (by omega) hk hlt hw
        · exact call2_key w r S p k t hS (by omega) hk hlt hw
        · exact call4_key w r S p k t hS (by omega) hk hlt hw
      have hlk : (t.take k).length = k := by rw [List.length_take]; omega
      have hxb : ∀ x ∈ t.take k, x < 256 := fun x hx => htb x (List.mem_of_mem_take hx)
      by_cases h1 : o = 1
      · subst h1
        refine call1_num w r S p k (t.take k) (t.drop k) hS (by omega) hk hlk (fun x hx => htb x (List.mem_of_mem_drop hx)) (fun hh => h ?_) (by rw [List.take_append_drop]; exact hw)
        obtain ⟨h8, hN⟩ := hh
        refine ⟨1, p, t.take k, numB ((t.drop k).take 8), (t.drop k).drop 8, norm_1 (by omega) (by omega) hN hxb, ?_, fun h => by omega⟩
        have e : wordB (numB ((t.drop k).take 8)) 8 = (t.drop k).take 8 := wordB_of _ 8 _ (fun x hx => htb x (List.mem_of_mem_drop (List.mem_of_mem_take hx))) (by rw [List.length_take]; omega) rfl
        rw [reqB_1, e, hlk]
        simp only [List.cons_append, List.append_assoc, List.take_append_drop]
      · have h24 : o = 2 ∨ o = 4 := by omega
        refine absurd ⟨o, p, t.take k, 0, t.drop k, norm_24 h24 (by omega) (by omega) hxb, ?_, fun h => by omega⟩ h
        rcases h24 with rfl | rfl
        · rw [reqB_2, hlk]; simp
        · rw [reqB_4, hlk]; simp
/-- bytes begin with one right call only -/
theorem begins_one {zs : List Nat} {op p N op' p' N' : Nat} {xs rest xs' rest' : List Nat} (h : Begins zs op p xs N rest) (h' : Begins zs op' p' xs' N' rest') : op = op' ∧ p = p' ∧ xs = xs' ∧ N = N' ∧ rest = rest' := by
  obtain ⟨⟨⟨h1, h2, h3, h4, h5⟩, _, h6, h7⟩, e, h8⟩ := h
  obtain ⟨⟨⟨g1, g2, g3, g4, g5⟩, _, g6, g7⟩, e', g8⟩ := h'
  rw [e] at e'
  have hops : op = 1 ∨ (op = 2 ∨ op = 4) ∨ op = 3 ∨ (op = 5 ∨ op = 6) := by omega
  have gops : op' = 1 ∨ (op' = 2 ∨ op' = 4) ∨ op' = 3 ∨ (op' = 5 ∨ op' = 6) := by omega
  have hd : ∀ o p N (xs : List Nat), 1 ≤ o → o ≤ 6 → (reqB o p xs N).head? = some o := by
    intro o p N xs k1 k2
    unfold reqB
    split
    · rename_i h; subst h; rfl
    · split <;> rfl
  have hop : op = op' := by
    have k1 := hd op p N xs h1 h2
    have k2 := hd op' p' N' xs' g1 g2
    have := congrArg List.head? e'
    rw [List.head?_append, List.head?_append, k1, k2] at this
    simpa using this
  subst hop
  refine ⟨rfl, ?_⟩
  rcases hops with rfl | h24 | rfl | h56
  · rw [reqB_1, reqB_1] at e'
    simp only [List.cons_append, List.cons.injEq, true_and, List.append_assoc] at e'
    obtain ⟨k1, k2, k3⟩ := e'
    obtain ⟨k4, k5⟩ := List.append_inj k3 k2
    obtain ⟨k6, k7⟩ := List.append_inj k5 (by rw [wordB_len, wordB_len])
    exact ⟨k1, k4, wordB_inj k6 (Nat.lt_of_le_of_lt (h4 rfl) (by decide)) (Nat.lt_of_le_of_lt (g4 rfl) (by decide)), k7⟩
  · have k : ∀ p (xs : List Nat) N, reqB op p xs N = op :: p :: xs.length :: xs := by
      intro p xs N
      rcases h24 with rfl | rfl
      · exact reqB_2 p xs N
      · exact reqB_4 p xs N
    rw [k, k] at e'
    simp only [List.cons_append, List.cons.injEq, true_and] at e'
    obtain ⟨k1, k2, k3⟩ := e'
    obtain ⟨k4, k5⟩ := List.append_inj k3 k2
    exact ⟨k1, k4, by rw [h7 h24, g7 h24], k5⟩
  · obtain rfl := h8 rfl
    obtain rfl := g8 rfl
    rw [reqB_3, reqB_3] at e'
    simp only [List.append_nil, List.cons.injEq, true_and] at e'
    obtain ⟨k1, k2, k3⟩ := tokB_inj e' (h5 rfl).2 (g5 rfl).2
    exact ⟨k1, k2, k3, rfl⟩
  · obtain ⟨rfl, rfl, rfl⟩ := h6 (by omega)
    obtain ⟨rfl, rfl, rfl⟩ := g6 (by omega)
    rw [reqB_56 h56] at e'
    exact ⟨rfl, rfl, rfl, by simpa using e'⟩
theorem begins_isReq {zs : List Nat} : IsReq zs ↔ ∃ op p xs N, Begins zs op p xs N [] := by
  constructor
  · rintro ⟨op, p, xs, N, h, e⟩
    exact ⟨op, p, xs, N, h, by simpa using e, fun _ => rfl⟩
  · rintro ⟨op, p, xs, N, h, e, _⟩
    exact ⟨op, p, xs, N, h, by simpa using e⟩
end Go.Proofs.Ythkdjjfnmlemdaa
