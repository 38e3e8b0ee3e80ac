/- the document's DocReadRequest. -/
import Derived.Test.YtkebkhgjoiiapaaGuessF
import Derived.Test.YtkebkhgjoiiapaaGuessK
import Derived.Test.YtkebkhgjoiiapaaGuessN
import Derived.Test.YtkebkhgjoiiapaaGuessO
import Derived.Test.YtkebkhgjoiiapaaGuess3
import Derived.Test.YtkebkhgjoiiapaaGuess3n
namespace Go.Proofs.Ytkebkhgjoiiapaa
open Go.RowKit

theorem docRead_long (w : World) (A : Option Addr) (n c : Nat) (hn : 4096 < n) : Calls Try.prog 45 #[.slice A n c] w (RetE (.tuple #[callZ, .int .i64 2]) w) := by
  go_enter Try.func45, Try.ntmps45
  go_wp2_with fail
  refine bodyPost_ret (ret_call2 rfl rfl (heap_alloc_new w _)) rfl ?_
  exact ⟨rfl, (Ext.refl w).alloc _⟩
set_option maxHeartbeats 1000000 in
theorem docRead_N (w : World) (A : Option Addr) (n c : Nat) (ys : List Nat) (hn : n ≤ 4096) (hr : Rd w A (vals .u8 ys)) (hG : ∀ w', Rd w' A (vals .u8 ys) → Calls Try.prog 73 #[.slice A n c] w' (RetN w')) :
    Calls Try.prog 45 #[.slice A n c] w (RetE (.tuple #[callZ, .int .i64 3]) w) := by
  have HG := Lib.hid hG; have Hr := Lib.hid hr; clear hG hr
  go_enter Try.func45, Try.ntmps45
  go_wp2_with fail
  refine (HG.out _ (Hr.out.alloc _)).mono ?_
  rintro e w1 ⟨o, p, A1, n1, c1, N, rfl, hy⟩
  have K := Lib.hid (blk_ext (blk_new w (.cells #[.int .u8 0, .int .i64 0, .slice none 0 0, .int .i64 0] 71 (0, 0))) hy)
  have hx : Ext w w1 := ((Ext.refl w).alloc _).trans hy
  clear hy
  have k0 := cell_past (blk_cell K.out 0); have k1 := cell_past (blk_cell K.out 1); have k2 := cell_past (blk_cell K.out 2); have k3 := cell_past (blk_cell K.out 3)
  have f0 := fz_past K.out 0; have f1 := fz_past K.out 1; have f2 := fz_past K.out 2; have f3 := fz_past K.out 3
  go_wp2_with fail
  refine bodyPost_ret (ret_call2 rfl rfl (row4 (blk_past K.out _) _ _ _ _)) rfl ?_
  exact ⟨rfl, ext_row4 (hx.alloc _) (Nat.le_refl _) _ _ _ _⟩
def RetDR (good : Prop) (op p N : Nat) (xs : List Nat) (w : World) (e : Ending) (w' : World) : Prop :=
  (good → RetCall op p xs N w e w') ∧ (¬ good → RetE (.tuple #[callZ, .int .i64 3]) w e w')
set_option maxHeartbeats 2000000 in
theorem docRead_G (w : World) (A : Option Addr) (n c op p N : Nat) (ys xs : List Nat) (good : Prop) (hl : ys.length = n) (hb : ∀ x ∈ ys, x < 256) (hn : n ≤ 4096) (hr : Rd w A (vals .u8 ys)) (hG : ∀ w', Rd w' A (vals .u8 ys) → Calls Try.prog 73 #[.slice A n c] w' (RetG op p xs N w'))
    (hQ : ∀ A' c', ∃ (q : Int) (L : List Nat), (good → q = 0 ∧ L = ys) ∧ (¬ good → (q == 0) = false ∨ L ≠ ys) ∧ (∀ x ∈ L, x < 256) ∧ ∀ w', Rd w' A' (vals .u8 xs) → Calls Try.prog 41 #[callV (op : Int) (p : Int) A' xs.length c' (N : Int)] w' (RetBE L q w')) :
    Calls Try.prog 45 #[.slice A n c] w (RetDR good op p N xs w) := by
  have HG := Lib.hid hG; have Hr := Lib.hid hr; have HQ := Lib.hid hQ; have Hl := Lib.hid hl; have Hb := Lib.hid hb; clear hG hr hQ hl hb
  go_enter Try.func45, Try.ntmps45
  go_wp2_with fail
  refine (HG.out _ (Hr.out.alloc _)).mono ?_
  rintro e w1 ⟨A1, c1, rfl, ho, hy⟩
  have K := Lib.hid (blk_ext (blk_new w (.cells #[.int .u8 0, .int .i64 0, .slice none 0 0, .int .i64 0] 71 (0, 0))) hy)
  have hx : Ext w w1 := ((Ext.refl w).alloc _).trans hy
  have Ho : Hid (w1.ownsRow (w.heap.size + 1) 5 1 (.slice A1 xs.length c1) xs.length (vals .u8 xs)) := own_base ho (by simp)
  clear hy ho
  go_wp2_with fail
  obtain ⟨q, L, hg1, hg2, hLb, hC⟩ := HQ.out A1 c1
  obtain ⟨kL, HkL⟩ : ∃ kL, Hid (L.length = kL) := ⟨_, rfl⟩
  have Hg1 := Lib.hid hg1; have Hg2 := Lib.hid hg2; have HLb := Lib.hid hLb; have HC := Lib.hid hC; clear hg1 hg2 hLb hC HQ
  refine (HC.out _ ((Rd.of_own Ho.out).alloc _)).mono ?_
  rintro e w2 ⟨A2, c2, rfl, ho2, hy2⟩
  rw [HkL.out] at ho2 ⊢
  have K2 := Lib.hid (blk_ext (blk_past K.out _) hy2)
  have KT := Lib.hid (blk_ext (blk_new w1 (.cells #[.int .u8 (op : Int), .int .i64 (p : Int), .slice A1 xs.length c1, .int .i64 (N : Int)] 71 (0, 0))) hy2)
  have hy12 : Ext w1 w2 := ((Ext.refl w1).alloc _).trans hy2
  have hx2 := hx.trans hy12
  have Ho2 := Lib.hid (own_ext Ho.out hy12)
  have RL := Lib.hid (Rd.of_own ho2)
  have hs1 : w.heap.size < w1.heap.size := blk_lt K.out
  clear ho2 hy2 hy12 K Ho
  by_cases hq : q = 0
  · subst hq
    have S := Lib.hid (same_any A A2 n c kL c2 ys L w2 Hl.out HkL.out (by omega) Hb.out HLb.out (Hr.out.ext hx2) RL.out)
    go_wp2_with fail
    refine (toE_q S.out).mono ?_
    rintro e w3 ⟨rfl, hy3⟩
    have K3 := Lib.hid (blk_ext K2.out hy3); have KT3 := Lib.hid (blk_ext KT.out hy3)
    have hx3 := hx2.trans hy3
    have Ho3 := Lib.hid (own_ext Ho2.out hy3)
    clear S K2 KT Ho2 hy3
    have k0 := blk_cell K3.out 0; have k1 := blk_cell K3.out 1; have k2 := blk_cell K3.out 2; have k3 := blk_cell K3.out 3
    have f0 := blk_frozen K3.out 0; have f1 := blk_frozen K3.out 1; have f2 := blk_frozen K3.out 2; have f3 := blk_frozen K3.out 3
    have t0 := blk_cell KT3.out 0; have t1 := blk_cell KT3.out 1; have t2 := blk_cell KT3.out 2; have t3 := blk_cell KT3.out 3
    by_cases hs : ys = L
    · have e1 : same ys L = true := decide_eq_true hs
      rw [e1]
      have Hs := Lib.hid hs; clear hs e1
      go_wp2_with fail
      refine bodyPost_ret (ret_call2 rfl rfl (row4 K3.out _ _ _ _)) rfl ?_
      refine ⟨fun _ => ⟨A1, _, rfl, own_row4 Ho3.out (by omega) _ _ _ _, ext_row4 hx3 (Nat.le_refl _) _ _ _ _⟩, fun h => ?_⟩
      rcases Hg2.out h with h | h
      · simp at h
      · exact absurd Hs.out.symm h
    · have e1 : same ys L = false := decide_eq_false hs
      rw [e1]
      have Hs := Lib.hid hs; clear hs e1
      go_wp2_with fail
      refine bodyPost_ret (ret_call2 rfl rfl (row4 K3.out _ _ _ _)) rfl ?_
      exact ⟨fun h => absurd (Hg1.out h).2.symm Hs.out, fun _ => ⟨rfl, ext_row4 hx3 (Nat.le_refl _) _ _ _ _⟩⟩
  · have hq' : (q != 0) = true := by simp [bne, hq]
    have Hq := Lib.hid hq; clear hq
    have k0 := blk_cell K2.out 0; have k1 := blk_cell K2.out 1; have k2 := blk_cell K2.out 2; have k3 := blk_cell K2.out 3
    have f0 := blk_frozen K2.out 0; have f1 := blk_frozen K2.out 1; have f2 := blk_frozen K2.out 2; have f3 := blk_frozen K2.out 3
    go_wp2_with fail
    refine bodyPost_ret (ret_call2 rfl rfl (row4 K2.out _ _ _ _)) rfl ?_
    exact ⟨fun h => absurd (Hg1.out h).1 Hq.out, fun _ => ⟨rfl, ext_row4 hx2 (Nat.le_refl _) _ _ _ _⟩⟩

theorem begins_inv {o : Nat} {z : List Nat} {op p N : Nat} {xs rest : List Nat} (h : Begins (o :: z) op p xs N rest) : op = o ∧ 1 ≤ o ∧ o ≤ 6 ∧ (o < 5 → p < 32 ∧ xs.length ≤ 255) ∧
    ((o = 1 ∧ z = p :: xs.length :: (xs ++ (wordB N 8 ++ rest)) ∧ N ≤ 4611686018427387903) ∨ ((o = 2 ∨ o = 4) ∧ z = p :: xs.length :: (xs ++ rest) ∧ N = 0) ∨ (o = 3 ∧ z = tokB p xs N ∧ IsTok z) ∨ ((o = 5 ∨ o = 6) ∧ z = rest ∧ p = 0 ∧ xs = [] ∧ N = 0)) := by
  obtain ⟨⟨⟨h1, h2, h3, h4, h5⟩, hxb, h6, h7⟩, e, h8⟩ := h
  have hops : op = 1 ∨ (op = 2 ∨ op = 4) ∨ op = 3 ∨ (op = 5 ∨ op = 6) := by omega
  rcases hops with rfl | h24 | rfl | h56
  · rw [reqB_1] at e
    simp only [List.cons_append, List.cons.injEq, List.append_assoc] at e
    obtain ⟨rfl, e⟩ := e
    exact ⟨rfl, by omega, by omega, h3, .inl ⟨rfl, e, h4 rfl⟩⟩
  · have k : reqB op p xs N = op :: p :: xs.length :: xs := by
      rcases h24 with rfl | rfl
      · exact reqB_2 p xs N
      · exact reqB_4 p xs N
    rw [k] at e
    simp only [List.cons_append, List.cons.injEq] at e
    obtain ⟨rfl, e⟩ := e
    exact ⟨rfl, h1, h2, h3, .inr (.inl ⟨h24, e, h7 h24⟩)⟩
  · obtain rfl := h8 rfl
    rw [reqB_3] at e
    simp only [List.append_nil, List.cons.injEq] at e
    obtain ⟨rfl, e⟩ := e
    obtain ⟨k1, k2⟩ := h3 (by omega)
    obtain ⟨k3, k4⟩ := h5 rfl
    exact ⟨rfl, by omega, by omega, h3, .inr (.inr (.inl ⟨rfl, e, p, N, xs, k1, k3, k4, k2, hxb, e⟩))⟩
  · rw [reqB_56 h56] at e
    simp only [List.cons_append, List.nil_append, List.cons.injEq] at e
    obtain ⟨rfl, e⟩ := e
    obtain ⟨k1, k2, k3⟩ := h6 (by omega)
    exact ⟨rfl, h1, h2, h3, .inr (.inr (.inr ⟨h56, e, k1, k2, k3⟩))⟩
theorem isReq_inv {ys : List Nat} (h : IsReq ys) : ∃ op p xs N, Begins ys op p xs N [] := begins_isReq.1 h
/-- what guess says of bytes -/
theorem guess_cases (A : Option Addr) (n c : Nat) (ys : List Nat) (hl : ys.length = n) (hn : n ≤ 4096) (hnc : n ≤ c) (hb : ∀ x ∈ ys, x < 256) :
    (∃ op p xs N, op < 256 ∧ p < 256 ∧ N ≤ 4611686018427387903 ∧ xs.length ≤ 255 ∧ (∀ x ∈ xs, x < 256) ∧ (∀ op' p' xs' N', Begins ys op' p' xs' N' [] → op = op' ∧ p = p' ∧ xs = xs' ∧ N = N') ∧ (5 ≤ op → p = 0 ∧ xs = [] ∧ N = 0) ∧ (op = 2 ∨ op = 4 → N = 0) ∧ ∀ w, Rd w A (vals .u8 ys) → Calls Try.prog 73 #[.slice A n c] w (RetG op p xs N w)) ∨
    (¬ IsReq ys ∧ ∀ w, Rd w A (vals .u8 ys) → Calls Try.prog 73 #[.slice A n c] w (RetN w)) := by
  match ys, hl, hb with
  | [], hl, _ =>
    obtain rfl : n = 0 := by simpa using hl.symm
    refine .inr ⟨fun h => ?_, fun w _ => guess_nil w A c⟩
    obtain ⟨op, p, xs, N, hB⟩ := isReq_inv h
    have := hB.2.1
    have k : (reqB op p xs N).length ≠ 0 := by
      unfold reqB
      split
      · simp
      · split <;> simp
    rw [List.append_nil] at this
    rw [← this] at k
    exact k rfl
  | o :: z, hl, hb =>
    have hn1 : 1 ≤ n := by simp at hl; omega
    have hln : z.length + 1 = n := by simpa using hl
    have ho256 : o < 256 := hb o (by simp)
    have hzb : ∀ x ∈ z, x < 256 := fun x hx => hb x (by simp [hx])
    have cell0 : ∀ w, Rd w A (vals .u8 (o :: z)) → ∃ b off, A = some ⟨b, off, none⟩ ∧ w.cell? ⟨b, off, none⟩ = some (.int .u8 (o : Int)) := fun w hr => head_cell hr
    by_cases h56 : o = 5 ∨ o = 6
    · refine .inl ⟨o, 0, [], 0, ho256, by omega, by omega, by simp, by simp, fun op' p' xs' N' hB => ?_, fun _ => ⟨rfl, rfl, rfl⟩, fun _ => rfl, fun w hr => ?_⟩
      · obtain ⟨e, _, _, _, h⟩ := begins_inv hB
        rcases h with ⟨h, _⟩ | ⟨h, _⟩ | ⟨h, _⟩ | ⟨_, _, h1, h2, h3⟩
        · omega
        · omega
        · omega
        · exact ⟨e.symm, h1.symm, h2.symm, h3.symm⟩
      · obtain ⟨b, off, rfl, c0⟩ := cell0 w hr
        have e : (((o : Int) == 5) || ((o : Int) == 6)) = true := by
          rcases h56 with h | h
          · subst h; rfl
          · subst h; rfl
        refine (guess_other w b off n c o hn1 c0 (by omega) _ _ rfl rfl).mono fun e' w' ⟨h1, h2⟩ => ⟨none, 0, ?_, World.ownsRow_nil _ _ _ _, h2⟩
        rw [h1, e]; rfl
    by_cases hoth : o = 0 ∨ 7 ≤ o
    · refine .inr ⟨fun h => ?_, fun w hr => ?_⟩
      · obtain ⟨op, p, xs, N, hB⟩ := isReq_inv h
        obtain ⟨_, h1, h2, _⟩ := begins_inv hB
        omega
      · obtain ⟨b, off, rfl, c0⟩ := cell0 w hr
        have e : (((o : Int) == 5) || ((o : Int) == 6)) = false := by
          rw [Bool.or_eq_false_iff, beq_eq_false_iff_ne, beq_eq_false_iff_ne]
          constructor <;> omega
        refine (guess_other w b off n c o hn1 c0 (by omega) _ _ rfl rfl).mono fun e' w' ⟨h1, h2⟩ => ⟨(o : Int), 0, none, 0, 0, 0, by rw [h1, e], h2⟩
    by_cases h3 : o = 3
    · subst h3
      by_cases ht : IsTok z
      · obtain ⟨p, s, xs, hp, h1, h2, hx, hxb, hz⟩ := ht
        refine .inl ⟨3, p, xs, s, by omega, by omega, h2, hx, hxb, fun op' p' xs' N' hB => ?_, fun h => by omega, fun h => by omega, fun w hr => ?_⟩
        · obtain ⟨e, _, _, _, h⟩ := begins_inv hB
          rcases h with ⟨h, _⟩ | ⟨h, _⟩ | ⟨_, k, _⟩ | ⟨h, _⟩
          · omega
          · omega
          · rw [hz] at k
            obtain ⟨⟨⟨_, _, _, _, g5⟩, _⟩, _⟩ := hB
            obtain ⟨k1, k2, k3⟩ := tokB_inj k h2 (g5 e).2
            exact ⟨e.symm, k1, k2, k3⟩
          · omega
        · obtain ⟨b, off, rfl, _⟩ := cell0 w hr
          exact guess3_ok w b off n c z p s xs (by omega) hnc hz hp h1 h2 hx hxb hr
      · refine .inr ⟨fun h => ?_, fun w hr => ?_⟩
        · obtain ⟨op, p, xs, N, hB⟩ := isReq_inv h
          obtain ⟨e, _, _, _, h⟩ := begins_inv hB
          rcases h with ⟨h, _⟩ | ⟨h, _⟩ | ⟨_, _, k⟩ | ⟨h, _⟩
          · omega
          · omega
          · exact ht k
          · omega
        · obtain ⟨b, off, rfl, _⟩ := cell0 w hr
          exact guess3_no w b off n c z (by omega) hnc hn hzb ht hr
    have h124 : o = 1 ∨ o = 2 ∨ o = 4 := by omega
    have few : ∀ w b off, A = some ⟨b, off, none⟩ → w.cell? ⟨b, off, none⟩ = some (.int .u8 (o : Int)) → (n < 3 ∨ ∃ k : Nat, k < 256 ∧ w.cell? ⟨b, off + 2, none⟩ = some (.int .u8 (k : Int)) ∧ 3 ≤ n ∧ n < 3 + k) → Calls Try.prog 73 #[.slice A n c] w (RetN w) := fun w b off hA c0 hh => by
      subst hA
      rcases h124 with rfl | rfl | rfl
      · exact guess1_few w b off n c hn1 c0 hh
      · exact guess2_few w b off n c hn1 c0 hh
      · exact guess4_few w b off n c hn1 c0 hh
    by_cases hshort : n < 3
    · refine .inr ⟨fun h => ?_, fun w hr => ?_⟩
      · obtain ⟨op, p, xs, N, hB⟩ := isReq_inv h
        obtain ⟨e, _, _, _, h⟩ := begins_inv hB
        rcases h with ⟨_, k, _⟩ | ⟨_, k, _⟩ | ⟨h, _⟩ | ⟨h, _⟩
        · rw [k] at hln; simp at hln; omega
        · rw [k] at hln; simp at hln; omega
        · omega
        · omega
      · obtain ⟨b, off, hA, c0⟩ := cell0 w hr
        exact few w b off hA c0 (.inl hshort)
    match z, hln, hzb, hb, cell0 with
    | [], hln, _, _, _ => simp at hln; omega
    | [_], hln, _, _, _ => simp at hln; omega
    | p :: k :: t, hln, hzb, hb, cell0 =>
      have hp : p < 256 := hzb p (by simp)
      have hk : k < 256 := hzb k (by simp)
      have htb : ∀ x ∈ t, x < 256 := fun x hx => hzb x (by simp [hx])
      have hlt : t.length + 3 = n := by simp at hln; omega
      by_cases hf : n < 3 + k
      · refine .inr ⟨fun h => ?_, fun w hr => ?_⟩
        · obtain ⟨op, p', xs, N, hB⟩ := isReq_inv h
          obtain ⟨e, _, _, _, h⟩ := begins_inv hB
          rcases h with ⟨_, q, _⟩ | ⟨_, q, _⟩ | ⟨h, _⟩ | ⟨h, _⟩
          · simp only [List.cons.injEq] at q
            obtain ⟨_, q2, q3⟩ := q
            rw [q3] at hlt; simp at hlt; omega
          · simp only [List.cons.injEq] at q
            obtain ⟨_, q2, q3⟩ := q
            rw [q3] at hlt; simp at hlt; omega
          · omega
          · omega
        · obtain ⟨b, off, hA, hc⟩ := hr (by simp [vals])
          exact few w b off hA (hc 0 _ rfl) (.inr ⟨k, hk, hc 2 _ rfl, by omega, hf⟩)
      · have hlk : (t.take k).length = k := by rw [List.length_take]; omega
        have hxb : ∀ x ∈ t.take k, x < 256 := fun x hx => htb x (List.mem_of_mem_take hx)
        have hub : ∀ x ∈ t.drop k, x < 256 := fun x hx => htb x (List.mem_of_mem_drop hx)
        have hnu : n = 3 + k + (t.drop k).length := by rw [List.length_drop]; omega
        by_cases h1 : o = 1
        · subst h1
          by_cases h8 : (t.drop k).length = 8 ∧ numB (t.drop k) ≤ 4611686018427387903
          · refine .inl ⟨1, p, t.take k, numB (t.drop k), by omega, hp, h8.2, by omega, hxb, fun op' p' xs' N' hB => ?_, fun h => by omega, fun h => by omega, fun w hr => ?_⟩
            · obtain ⟨e, _, _, _, h⟩ := begins_inv hB
              rcases h with ⟨_, q, hN'⟩ | ⟨h, _⟩ | ⟨h, _⟩ | ⟨h, _⟩
              · simp only [List.cons.injEq, List.append_nil] at q
                obtain ⟨q1, q2, q3⟩ := q
                have e1 : t.take k = xs' := by rw [q3]; exact List.take_left' q2.symm
                have e2 : t.drop k = wordB N' 8 := by rw [q3]; exact List.drop_left' q2.symm
                refine ⟨e.symm, q1, e1, ?_⟩
                rw [e2, numB_wordB]
                exact Nat.mod_eq_of_lt (Nat.lt_of_le_of_lt hN' (by decide))
              · omega
              · omega
              · omega
            · obtain ⟨b, off, rfl, _⟩ := cell0 w hr
              exact guess1_ok w b off n c p k (t.take k) (t.drop k) hlk hk hp hnu hnc hn hub (by rw [List.take_append_drop]; exact hr) h8.1 h8.2
          · refine .inr ⟨fun h => ?_, fun w hr => ?_⟩
            · obtain ⟨op, p', xs, N, hB⟩ := isReq_inv h
              obtain ⟨e, _, _, _, h⟩ := begins_inv hB
              rcases h with ⟨_, q, hN'⟩ | ⟨h, _⟩ | ⟨h, _⟩ | ⟨h, _⟩
              · simp only [List.cons.injEq, List.append_nil] at q
                obtain ⟨q1, q2, q3⟩ := q
                have e2 : t.drop k = wordB N 8 := by rw [q3]; exact List.drop_left' q2.symm
                refine h8 ⟨by rw [e2, wordB_len], ?_⟩
                rw [e2, numB_wordB]
                exact Nat.le_trans (Nat.mod_le _ _) hN'
              · omega
              · omega
              · omega
            · obtain ⟨b, off, rfl, _⟩ := cell0 w hr
              exact guess1_no w b off n c p k (t.take k) (t.drop k) hlk hk hp hnu hnc hn hub (by rw [List.take_append_drop]; exact hr) (by
                by_cases h : (t.drop k).length = 8
                · exact .inr (Nat.lt_of_not_le fun hh => h8 ⟨h, hh⟩)
                · exact .inl h)
        · have h24 : o = 2 ∨ o = 4 := by omega
          refine .inl ⟨o, p, t.take k, 0, ho256, hp, by omega, by omega, hxb, fun op' p' xs' N' hB => ?_, fun h => by omega, fun _ => rfl, fun w hr => ?_⟩
          · obtain ⟨e, _, _, _, h⟩ := begins_inv hB
            rcases h with ⟨h, _⟩ | ⟨_, q, hN'⟩ | ⟨h, _⟩ | ⟨h, _⟩
            · omega
            · simp only [List.cons.injEq, List.append_nil] at q
              obtain ⟨q1, q2, q3⟩ := q
              refine ⟨e.symm, q1, ?_, hN'.symm⟩
              rw [← q3, List.take_of_length_le (by rw [q3]; omega)]
            · omega
            · omega
          · obtain ⟨b, off, rfl, _⟩ := cell0 w hr
            rcases h24 with rfl | rfl
            · exact guess2_ok w b off n c p k (t.take k) (t.drop k) hlk hk hp hnu hnc hn hub (by rw [List.take_append_drop]; exact hr)
            · exact guess4_ok w b off n c p k (t.take k) (t.drop k) hlk hk hp hnu hnc hn hub (by rw [List.take_append_drop]; exact hr)
theorem reqB_same {op p N P M : Nat} {xs : List Nat} (h1 : op < 5 → ((p : Nat) : Int) = (P : Int)) (h2 : op = 1 ∨ op = 3 → ((N : Nat) : Int) = (M : Int)) (hR : RightC op p xs N) : reqB op P xs M = reqB op p xs N := by
  obtain ⟨r1, r2, _⟩ := hR
  by_cases h56 : op = 5 ∨ op = 6
  · rw [reqB_56 h56, reqB_56 h56]
  · have hp : p = P := by have := h1 (by omega); omega
    subst hp
    by_cases h13 : op = 1 ∨ op = 3
    · have : N = M := by have := h2 h13; omega
      rw [this]
    · have h24 : op = 2 ∨ op = 4 := by omega
      rcases h24 with rfl | rfl
      · rw [reqB_2, reqB_2]
      · rw [reqB_4, reqB_4]
theorem reqB_len {op p N : Nat} {xs : List Nat} (h : xs.length ≤ 255) : (reqB op p xs N).length ≤ 1000 := by
  unfold reqB
  split
  · rw [List.length_cons, tokB_len]; omega
  · split
    · simp
    · simp only [List.length_cons, List.length_append]
      split
      · rw [wordB_len]; omega
      · simp; omega
/-- what ReadRequest and DocReadRequest answer -/
theorem read_cases (ys : List Nat) (n : Nat) (hl : ys.length = n) (hb : ∀ x ∈ ys, x < 256) :
    (∃ q : Int, (q == 0) = false ∧ (q = 3 ∨ (q = 2 ∧ 4096 < n)) ∧ ¬ (n ≤ 4096 ∧ IsReq ys) ∧ (∀ w B d, Rd w B (vals .u8 ys) → n ≤ d → Calls Try.prog 42 #[.slice B n d] w (RetE (.tuple #[callZ, .int .i64 q]) w)) ∧ (∀ w B d, Rd w B (vals .u8 ys) → n ≤ d → Calls Try.prog 45 #[.slice B n d] w (RetE (.tuple #[callZ, .int .i64 q]) w))) ∨
    (∃ op p xs N, NormC op p xs N ∧ ys = reqB op p xs N ∧ n ≤ 4096 ∧ (∀ w B d, Rd w B (vals .u8 ys) → n ≤ d → Calls Try.prog 42 #[.slice B n d] w (RetCall op p xs N w)) ∧ (∀ w B d, Rd w B (vals .u8 ys) → n ≤ d → Calls Try.prog 45 #[.slice B n d] w (RetCall op p xs N w))) := by
  by_cases hn : 4096 < n
  · exact .inl ⟨2, rfl, .inr ⟨rfl, hn⟩, fun h => by omega, fun w B d hr _ => readReq_long w B n d ys hr hn, fun w B d _ _ => docRead_long w B n d hn⟩
  by_cases hq : IsReq ys
  · right
    obtain ⟨op, p, xs, N, hB⟩ := isReq_inv hq
    have hB' := hB
    obtain ⟨hN, he, _⟩ := hB
    rw [List.append_nil] at he
    refine ⟨op, p, xs, N, hN, he, by omega, fun w B d hr hd => readReq_ok w B n d ys xs op p N hl (by omega) hd hb hr hB', fun w B d hr hd => ?_⟩
    rcases guess_cases B n d ys hl (by omega) hd hb with ⟨op', p', xs', N', g1, g2, g3, g4, g5, g6, _, _, g7⟩ | ⟨h, _⟩
    · obtain ⟨rfl, rfl, rfl, rfl⟩ := g6 _ _ _ _ hB'
      refine (docRead_G w B n d op' p' N' ys xs' True hl hb (by omega) hr g7 fun A' c' => ?_).mono fun e w' h => h.1 trivial
      obtain ⟨q, L, hI, _, hC⟩ := req_cases op' g1 (p' : Int) (N' : Int) xs'.length xs' rfl g5
      rcases hI with ⟨hq0, rfl, hno⟩ | ⟨rfl, P, M, k1, k2, k3, k4⟩
      · exact absurd ⟨p', N', fun _ => rfl, fun _ => rfl, hN.1⟩ hno
      · have hL : L = ys := by
          rw [k4, he]
          exact reqB_same k1 k2 hN.1
        exact ⟨0, L, fun _ => ⟨rfl, hL⟩, fun h => absurd trivial h, by rw [hL]; exact hb, hC A' c'⟩
    · exact absurd hq h
  · left
    refine ⟨3, rfl, .inl rfl, fun h => hq h.2, fun w B d hr hd => readReq_none w B n d ys hl (by omega) hd hb hr hq, fun w B d hr hd => ?_⟩
    rcases guess_cases B n d ys hl (by omega) hd hb with ⟨op', p', xs', N', g1, g2, g3, g4, g5, g6, g8, g9, g7⟩ | ⟨_, h⟩
    · refine (docRead_G w B n d op' p' N' ys xs' False hl hb (by omega) hr g7 fun A' c' => ?_).mono fun e w' h => h.2 id
      obtain ⟨q, L, hI, _, hC⟩ := req_cases op' g1 (p' : Int) (N' : Int) xs'.length xs' rfl g5
      rcases hI with ⟨hq0, rfl, hno⟩ | ⟨rfl, P, M, k1, k2, k3, k4⟩
      · exact ⟨q, [], fun h => h.elim, fun _ => .inl hq0, by simp, hC A' c'⟩
      · refine ⟨0, L, fun h => h.elim, fun _ => .inr fun hL => hq ?_, by rw [k4]; exact reqB_lt k3 g5, hC A' c'⟩
        have hR : RightC op' p' xs' N' := by
          obtain ⟨r1, r2, r3, r4, r5⟩ := k3
          exact ⟨r1, r2, fun h => by have := k1 h; have := r3 h; omega, fun h => by have := k2 (.inl h); have := r4 h; omega, fun h => by have := k2 (.inr h); have := r5 h; omega⟩
        exact ⟨op', p', xs', N', ⟨hR, g5, g8, g9⟩, by rw [← hL, k4]; exact reqB_same k1 k2 hR⟩
    · exact docRead_N w B n d ys (by omega) hr h
/-- a right call with the fields alone that its form has -/
theorem norm_of {o P M : Nat} {xs : List Nat} (h : RightC o P xs M) (hb : ∀ x ∈ xs, x < 256) :
    ∃ (p' : Nat) (xs' : List Nat) (N' : Nat), NormC o p' xs' N' ∧ reqB o P xs M = reqB o p' xs' N' ∧ (4 < o → p' = 0 ∧ xs' = [] ∧ N' = 0) ∧ (o ≤ 4 → p' = P ∧ xs' = xs) ∧ (o = 2 ∨ o = 4 → N' = 0) ∧ (o = 1 ∨ o = 3 → N' = M) := by
  have h' := h
  obtain ⟨h1, h2, h3, h4, h5⟩ := h
  by_cases h56 : o = 5 ∨ o = 6
  · exact ⟨0, [], 0, norm_56 h56, by rw [reqB_56 h56, reqB_56 h56], fun _ => ⟨rfl, rfl, rfl⟩, fun h => by omega, fun _ => rfl, fun h => by omega⟩
  · obtain ⟨k1, k2⟩ := h3 (by omega)
    by_cases h24 : o = 2 ∨ o = 4
    · refine ⟨P, xs, 0, norm_24 h24 k1 k2 hb, ?_, fun h => by omega, fun _ => ⟨rfl, rfl⟩, fun _ => rfl, fun h => by omega⟩
      rcases h24 with rfl | rfl
      · rw [reqB_2, reqB_2]
      · rw [reqB_4, reqB_4]
    · exact ⟨P, xs, M, ⟨h', hb, fun h => by omega, fun h => by omega⟩, rfl, fun h => by omega, fun _ => ⟨rfl, rfl⟩, fun h => by omega, fun _ => rfl⟩
theorem norm_len {o p N : Nat} {xs : List Nat} (h : NormC o p xs N) : xs.length ≤ 255 := by
  obtain ⟨⟨h1, h2, h3, _⟩, _, h6, _⟩ := h
  by_cases h5 : o < 5
  · exact (h3 h5).2
  · rw [(h6 (by omega)).2.1]; simp
theorem req_norm {op p N k : Nat} {ks : List Nat} (h : NormC op p ks N) (hl : ks.length = k) (A : Option Addr) (c : Nat) (w : World) (hr : Rd w A (vals .u8 ks)) :
    Calls Try.prog 40 #[callV (op : Int) (p : Int) A k c (N : Int)] w (RetBE (reqB op p ks N) 0 w) := by
  obtain ⟨q, L, hI, hC, _⟩ := req_cases op (by have := h.1.2.1; omega) (p : Int) (N : Int) k ks hl h.2.1
  rcases hI with ⟨_, _, h'⟩ | ⟨rfl, P, M, h1, h2, h3, rfl⟩
  · exact absurd ⟨p, N, fun _ => rfl, fun _ => rfl, h.1⟩ h'
  · rw [reqB_same h1 h2 h.1] at hC
    exact hC A c w hr
end Go.Proofs.Ytkebkhgjoiiapaa
