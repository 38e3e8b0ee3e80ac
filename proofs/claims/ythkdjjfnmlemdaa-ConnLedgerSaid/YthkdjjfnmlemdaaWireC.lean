/- the document's DocRequest; Request and DocRequest answer alike. -/
import Derived.Test.YthkdjjfnmlemdaaWireB
namespace Go.Proofs.Ythkdjjfnmlemdaa
open Go.RowKit

theorem docReq_op (w : World) (op p N : Int) (A : Option Addr) (n c : Nat) (h : op < 1 ∨ 6 < op) :
    Calls Try.prog 37 #[callV op p A n c N] w (RetBE [] 1 w) := by
  rcases h with h | h
  · go_enter Try.func37, Try.ntmps37
    go_wp2_with fail
    go_ret2
    exact retBE_none ⟨rfl, (Ext.refl w).alloc _⟩
  · have h' : ¬ op < 1 := by omega
    go_enter Try.func37, Try.ntmps37
    go_wp2_with fail
    go_ret2
    exact retBE_none ⟨rfl, (Ext.refl w).alloc _⟩
theorem docReq_p (w : World) (op p N : Int) (A : Option Addr) (n c : Nat) (h1 : 1 ≤ op) (h5 : op < 5) (h : p < 0 ∨ 32 ≤ p) :
    Calls Try.prog 37 #[callV op p A n c N] w (RetBE [] 1 w) := by
  have h6 : op ≤ 6 := by omega
  rcases h with h | h
  · go_enter Try.func37, Try.ntmps37
    go_wp2_with fail
    go_ret2
    exact retBE_none ⟨rfl, (Ext.refl w).alloc _⟩
  · have h' : ¬ p < 0 := by omega
    go_enter Try.func37, Try.ntmps37
    go_wp2_with fail
    go_ret2
    exact retBE_none ⟨rfl, (Ext.refl w).alloc _⟩
theorem docReq_N1 (w : World) (p N : Int) (A : Option Addr) (n c : Nat) (hp : 0 ≤ p) (hp' : p < 32) (h : N < 0 ∨ 4611686018427387903 < N) :
    Calls Try.prog 37 #[callV 1 p A n c N] w (RetBE [] 1 w) := by
  go_enter Try.func37, Try.ntmps37
  go_wp2_with fail
  refine (refForm_bad N _ h).mono ?_
  rintro e w1 ⟨rfl, rfl⟩
  go_wp2_with fail
  go_ret2
  exact retBE_none ⟨rfl, (Ext.refl w).alloc _⟩
theorem docReq_N3 (w : World) (p N : Int) (A : Option Addr) (n c : Nat) (hp : 0 ≤ p) (hp' : p < 32) (h : N < 1 ∨ 4611686018427387903 < N) :
    Calls Try.prog 37 #[callV 3 p A n c N] w (RetBE [] 1 w) := by
  rcases h with h | h
  · go_enter Try.func37, Try.ntmps37
    go_wp2_with fail
    go_ret2
    exact retBE_none ⟨rfl, (Ext.refl w).alloc _⟩
  · have h' : ¬ N < 1 := by omega
    go_enter Try.func37, Try.ntmps37
    go_wp2_with fail
    go_ret2
    exact retBE_none ⟨rfl, (Ext.refl w).alloc _⟩
theorem docReq_long1 (w : World) (p N : Int) (A : Option Addr) (n c : Nat) (hp : 0 ≤ p) (hp' : p < 32) (h1 : 0 ≤ N) (h2 : N ≤ 4611686018427387903) (hn : 255 < n) :
    Calls Try.prog 37 #[callV 1 p A n c N] w (RetBE [] 2 w) := by
  go_enter Try.func37, Try.ntmps37
  go_wp2_with fail
  refine (refForm_ok N _ h1 h2).mono ?_
  rintro e w1 ⟨rfl, rfl⟩
  go_wp2_with fail
  go_ret2
  exact retBE_none ⟨rfl, (Ext.refl w).alloc _⟩
theorem docReq_long3 (w : World) (p N : Int) (A : Option Addr) (n c : Nat) (hp : 0 ≤ p) (hp' : p < 32) (h1 : 1 ≤ N) (h2 : N ≤ 4611686018427387903) (hn : 255 < n) :
    Calls Try.prog 37 #[callV 3 p A n c N] w (RetBE [] 2 w) := by
  go_enter Try.func37, Try.ntmps37
  go_wp2_with fail
  go_ret2
  exact retBE_none ⟨rfl, (Ext.refl w).alloc _⟩
theorem docReq_long24 (w : World) (op p N : Int) (A : Option Addr) (n c : Nat) (h : op = 2 ∨ op = 4) (hp : 0 ≤ p) (hp' : p < 32) (hn : 255 < n) :
    Calls Try.prog 37 #[callV op p A n c N] w (RetBE [] 2 w) := by
  have q1 : (op == 1) = false := by rw [beq_eq_false_iff_ne]; omega
  have q3 : (op == 3) = false := by rw [beq_eq_false_iff_ne]; omega
  have h1 : 1 ≤ op := by omega
  have h2 : op < 5 := by omega
  have h3 : op ≤ 6 := by omega
  clear h
  go_enter Try.func37, Try.ntmps37
  go_wp2_with fail
  go_ret2
  exact retBE_none ⟨rfl, (Ext.refl w).alloc _⟩
theorem retBE_in {L : List Nat} {q : Int} {w w1 w2 : World} {A : Option Addr} {c k : Nat} (hx : Ext w w1) (hk : L.length = k) (ho : w2.ownsRow w1.heap.size 5 1 (.slice A k c) k (vals .u8 L)) (hy : Ext w1 w2) :
    RetBE L q w (.returned (.tuple #[.slice A k c, .int .i64 q])) w2 := retBE_of hk (own_base ho hx.size) (hx.trans hy)
theorem docReq_ok1 (w : World) (p N : Int) (A : Option Addr) (n c : Nat) (xs L : List Nat) (k : Nat) (hk : L.length = k) (hr : Rd w A (vals .u8 xs)) (hp : 0 ≤ p) (hp' : p < 32) (h1 : 0 ≤ N) (h2 : N ≤ 4611686018427387903) (hn : n ≤ 255)
    (hC : ∀ w, Rd w A (vals .u8 xs) → Calls Try.prog 75 #[callV 1 p A n c N] w (RetB L w)) :
    Calls Try.prog 37 #[callV 1 p A n c N] w (RetBE L 0 w) := by
  have HC := Lib.hid hC; have Hr := Lib.hid hr; have Hk := Lib.hid hk; clear hC hr hk
  go_enter Try.func37, Try.ntmps37
  go_wp2_with fail
  refine (refForm_ok N _ h1 h2).mono ?_
  rintro e w1 ⟨rfl, rfl⟩
  go_wp2_with fail
  refine (HC.out _ (Hr.out.alloc _)).mono ?_
  rintro e w1 ⟨A1, c1, rfl, hown, hy⟩
  rw [Hk.out] at hown ⊢
  have Hown := Lib.hid hown; clear hown
  go_wp2_with fail
  go_ret2
  exact retBE_in ((Ext.refl w).alloc _) Hk.out Hown.out hy
theorem docReq_ok3 (w : World) (p N : Int) (A : Option Addr) (n c : Nat) (xs L : List Nat) (k : Nat) (hk : L.length = k) (hr : Rd w A (vals .u8 xs)) (hp : 0 ≤ p) (hp' : p < 32) (h1 : 1 ≤ N) (h2 : N ≤ 4611686018427387903) (hn : n ≤ 255)
    (hC : ∀ w, Rd w A (vals .u8 xs) → Calls Try.prog 75 #[callV 3 p A n c N] w (RetB L w)) :
    Calls Try.prog 37 #[callV 3 p A n c N] w (RetBE L 0 w) := by
  have HC := Lib.hid hC; have Hr := Lib.hid hr; have Hk := Lib.hid hk; clear hC hr hk
  go_enter Try.func37, Try.ntmps37
  go_wp2_with fail
  refine (HC.out _ (Hr.out.alloc _)).mono ?_
  rintro e w1 ⟨A1, c1, rfl, hown, hy⟩
  rw [Hk.out] at hown ⊢
  have Hown := Lib.hid hown; clear hown
  go_wp2_with fail
  go_ret2
  exact retBE_in ((Ext.refl w).alloc _) Hk.out Hown.out hy
theorem docReq_ok24 (w : World) (op p N : Int) (A : Option Addr) (n c : Nat) (xs L : List Nat) (k : Nat) (hk : L.length = k) (hr : Rd w A (vals .u8 xs)) (h : op = 2 ∨ op = 4) (hp : 0 ≤ p) (hp' : p < 32) (hn : n ≤ 255)
    (hC : ∀ w, Rd w A (vals .u8 xs) → Calls Try.prog 75 #[callV op p A n c N] w (RetB L w)) :
    Calls Try.prog 37 #[callV op p A n c N] w (RetBE L 0 w) := by
  have HC := Lib.hid hC; have Hr := Lib.hid hr; have Hk := Lib.hid hk; clear hC hr hk
  have q1 : (op == 1) = false := by rw [beq_eq_false_iff_ne]; omega
  have q3 : (op == 3) = false := by rw [beq_eq_false_iff_ne]; omega
  have h1 : 1 ≤ op := by omega
  have h2 : op < 5 := by omega
  have h3 : op ≤ 6 := by omega
  clear h
  go_enter Try.func37, Try.ntmps37
  go_wp2_with fail
  refine (HC.out _ (Hr.out.alloc _)).mono ?_
  rintro e w1 ⟨A1, c1, rfl, hown, hy⟩
  rw [Hk.out] at hown ⊢
  have Hown := Lib.hid hown; clear hown
  go_wp2_with fail
  go_ret2
  exact retBE_in ((Ext.refl w).alloc _) Hk.out Hown.out hy
theorem docReq_ok56 (w : World) (op p N : Int) (A : Option Addr) (n c : Nat) (L : List Nat) (k : Nat) (hk : L.length = k) (h : op = 5 ∨ op = 6)
    (hC : ∀ w, Calls Try.prog 75 #[callV op p A n c N] w (RetB L w)) :
    Calls Try.prog 37 #[callV op p A n c N] w (RetBE L 0 w) := by
  have HC := Lib.hid hC; have Hk := Lib.hid hk; clear hC hk
  have q1 : (op == 1) = false := by rw [beq_eq_false_iff_ne]; omega
  have q3 : (op == 3) = false := by rw [beq_eq_false_iff_ne]; omega
  have h1 : 1 ≤ op := by omega
  have h2 : 5 ≤ op := by omega
  have h3 : op ≤ 6 := by omega
  clear h
  go_enter Try.func37, Try.ntmps37
  go_wp2_with fail
  refine (HC.out _).mono ?_
  rintro e w1 ⟨A1, c1, rfl, hown, hy⟩
  rw [Hk.out] at hown ⊢
  have Hown := Lib.hid hown; clear hown
  go_wp2_with fail
  go_ret2
  exact retBE_in ((Ext.refl w).alloc _) Hk.out Hown.out hy

/-- Request and DocRequest answer alike -/
theorem req_cases (op : Nat) (_hop : op < 256) (p N : Int) (n : Nat) (xs : List Nat) (hl : xs.length = n) (hb : ∀ x ∈ xs, x < 256) :
    ∃ (q : Int) (L : List Nat), ReqIs op p xs N q L ∧ (∀ A c w, Rd w A (vals .u8 xs) → Calls Try.prog 36 #[callV (op : Int) p A n c N] w (RetBE L q w)) ∧
      (∀ A c w, Rd w A (vals .u8 xs) → Calls Try.prog 37 #[callV (op : Int) p A n c N] w (RetBE L q w)) := by
  by_cases h0 : op < 1 ∨ 6 < op
  · exact ⟨1, [], (.inl ⟨rfl, rfl, not_right (by omega)⟩), fun A c w _ => req_bad w _ p N A n c (by omega) (by omega), fun A c w _ => docReq_op w _ p N A n c (by omega)⟩
  by_cases h56 : op = 5 ∨ op = 6
  · have hR : RightC op 0 xs 0 := ⟨by omega, by omega, fun h => by omega, fun h => by omega, fun h => by omega⟩
    have hB : reqB op 0 xs 0 = [op] := by unfold reqB; rw [if_neg (by omega), if_pos h56]
    refine ⟨0, [op], .inr ⟨rfl, 0, 0, fun h => by omega, fun h => by omega, hR, hB.symm⟩, fun A c w _ => ?_, fun A c w _ => docReq_ok56 w _ p N A n c [op] 1 rfl (by omega) (fun w => refReq56 w op h56 p N A n c)⟩
    rcases h56 with rfl | rfl
    · exact req5_ok w p N A n c
    · exact req6_ok w p N A n c
  by_cases h3 : op = 3
  · subst h3
    by_cases h1 : N < 1 ∨ 4611686018427387903 < N ∨ p < 0 ∨ 32 ≤ p
    · refine ⟨1, [], (.inl ⟨rfl, rfl, not_right (by omega)⟩), fun A c w hr => req3_err w p N A n c xs 1 rfl hr (fun w' _ => (tokEncode_arg w' p N A n c h1).mono fun _ _ h => retBE_none h), fun A c w hr => ?_⟩
      by_cases hp : p < 0 ∨ 32 ≤ p
      · exact docReq_p w 3 p N A n c (by omega) (by omega) hp
      · exact docReq_N3 w p N A n c (by omega) (by omega) (by omega)
    · by_cases h2 : 255 < n
      · exact ⟨2, [], (.inl ⟨rfl, rfl, not_right (by omega)⟩), fun A c w hr => req3_err w p N A n c xs 2 rfl hr (fun w' _ => (tokEncode_long w' p N A n c (by omega) (by omega) (by omega) (by omega) h2).mono fun _ _ h => retBE_none h), fun A c w hr => docReq_long3 w p N A n c (by omega) (by omega) (by omega) (by omega) h2⟩
      · have hlen : (tokB p.toNat xs N.toNat).length = n + 16 := by rw [tokB_len, hl]
        have hR : RightC 3 p.toNat xs N.toNat := ⟨by omega, by omega, fun _ => ⟨by omega, by omega⟩, fun h => by omega, fun _ => ⟨by omega, by omega⟩⟩
        refine ⟨0, 3 :: tokB p.toNat xs N.toNat, .inr ⟨rfl, p.toNat, N.toNat, fun _ => by omega, fun _ => by omega, hR, rfl⟩, fun A c w hr => req3_ok w p N A n c xs _ _ hlen (by omega) hr (fun w' hr' => ?_), fun A c w hr => docReq_ok3 w p N A n c xs _ _ (by rw [List.length_cons, hlen]) hr (by omega) (by omega) (by omega) (by omega) (by omega) (fun w' hr' => ?_)⟩
        · have := tokEncode_ok w' p.toNat N.toNat A n c xs hl hb hr' (by omega) (by omega) (by omega) (by omega)
          rwa [show ((p.toNat : Nat) : Int) = p by omega, show ((N.toNat : Nat) : Int) = N by omega] at this
        · have := refReq3 w' p.toNat N.toNat A n c xs hl hb hr' (by omega) (by omega) (by omega) (by omega)
          rwa [show ((p.toNat : Nat) : Int) = p by omega, show ((N.toNat : Nat) : Int) = N by omega] at this
  by_cases h1 : op = 1
  · subst h1
    by_cases hN : N < 0 ∨ 4611686018427387903 < N
    · refine ⟨1, [], (.inl ⟨rfl, rfl, not_right (by omega)⟩), fun A c w _ => req1_num w p N A n c hN, fun A c w _ => ?_⟩
      by_cases hp : p < 0 ∨ 32 ≤ p
      · exact docReq_p w 1 p N A n c (by omega) (by omega) hp
      · exact docReq_N1 w p N A n c (by omega) (by omega) hN
    · by_cases hp : p < 0 ∨ 32 ≤ p
      · exact ⟨1, [], (.inl ⟨rfl, rfl, not_right (by omega)⟩), fun A c w _ => req1_err w p N A n c 1 rfl (by omega) (by omega) (fun w => ident_arg p A n c w hp), fun A c w _ => docReq_p w 1 p N A n c (by omega) (by omega) hp⟩
      · by_cases h2 : 255 < n
        · exact ⟨2, [], (.inl ⟨rfl, rfl, not_right (by omega)⟩), fun A c w _ => req1_err w p N A n c 2 rfl (by omega) (by omega) (fun w => ident_long p A n c w (by omega) (by omega) h2), fun A c w _ => docReq_long1 w p N A n c (by omega) (by omega) (by omega) (by omega) h2⟩
        · obtain ⟨P, rfl⟩ : ∃ P : Nat, p = (P : Int) := ⟨p.toNat, by omega⟩
          obtain ⟨M, rfl⟩ : ∃ M : Nat, N = (M : Int) := ⟨N.toNat, by omega⟩
          have hR : RightC 1 P xs M := ⟨by omega, by omega, fun _ => ⟨by omega, by omega⟩, fun _ => by omega, fun h => by omega⟩
          refine ⟨0, reqB 1 P xs M, .inr ⟨rfl, P, M, fun _ => rfl, fun _ => rfl, hR, rfl⟩, fun A c w hr => req1_ok w P M A n c xs hl hr (by omega) (by omega) (by omega), fun A c w hr => docReq_ok1 w _ _ A n c xs _ _ rfl hr (by omega) (by omega) (by omega) (by omega) (by omega) (fun w' hr' => refReq1 w' P M A n c xs hl hr' (by omega) (by omega) (by omega))⟩
  · have h24 : op = 2 ∨ op = 4 := by omega
    by_cases hp : p < 0 ∨ 32 ≤ p
    · refine ⟨1, [], (.inl ⟨rfl, rfl, not_right (by omega)⟩), fun A c w _ => ?_, fun A c w _ => docReq_p w _ p N A n c (by omega) (by omega) hp⟩
      rcases h24 with rfl | rfl
      · exact req2_err w p N A n c 1 rfl (fun w => ident_arg p A n c w hp)
      · exact req4_err w p N A n c 1 rfl (fun w => ident_arg p A n c w hp)
    · by_cases h2 : 255 < n
      · refine ⟨2, [], (.inl ⟨rfl, rfl, not_right (by omega)⟩), fun A c w _ => ?_, fun A c w _ => docReq_long24 w _ p N A n c (by omega) (by omega) (by omega) h2⟩
        rcases h24 with rfl | rfl
        · exact req2_err w p N A n c 2 rfl (fun w => ident_long p A n c w (by omega) (by omega) h2)
        · exact req4_err w p N A n c 2 rfl (fun w => ident_long p A n c w (by omega) (by omega) h2)
      · obtain ⟨P, rfl⟩ : ∃ P : Nat, p = (P : Int) := ⟨p.toNat, by omega⟩
        have hR : RightC op P xs 0 := ⟨by omega, by omega, fun _ => ⟨by omega, by omega⟩, fun h => by omega, fun h => by omega⟩
        have hB : reqB op P xs 0 = op :: P :: xs.length :: xs := by unfold reqB; rw [if_neg (by omega), if_neg (by omega), if_neg (by omega), List.append_nil]
        refine ⟨0, reqB op P xs 0, .inr ⟨rfl, P, 0, fun _ => rfl, fun h => by omega, hR, rfl⟩, fun A c w hr => ?_, fun A c w hr => ?_⟩
        · rw [hB]
          rcases h24 with rfl | rfl
          · exact req2_ok w P N A n c xs hl hr (by omega) (by omega)
          · exact req4_ok w P N A n c xs hl hr (by omega) (by omega)
        · rw [hB]
          exact docReq_ok24 w _ _ N A n c xs _ _ rfl hr (by omega) (by omega) (by omega) (by omega) (fun w' hr' => refReq24 w' op P h24 N A n c xs hl hr' (by omega) (by omega))
end Go.Proofs.Ythkdjjfnmlemdaa
