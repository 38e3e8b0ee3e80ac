/- Reply and DocReply answer alike; ReadReply and DocReadReply too. -/
import Derived.Test.YtkebkhgjoiiapaaDocReply
import Derived.Test.YtkebkhgjoiiapaaDocRR
import Derived.Test.YtkebkhgjoiiapaaRepW2
import Derived.Test.YtkebkhgjoiiapaaRepW3
namespace Go.Proofs.Ytkebkhgjoiiapaa
open Go.RowKit

theorem rep_cases (e : Int) (g : Bool) (l t s n : Int) :
    ∃ (q : Int) (B : List Nat), ((q = 1 ∧ B = [] ∧ ¬ (0 ≤ e ∧ e ≤ 16 ∧ okN l ∧ okN t ∧ okN s ∧ okN n)) ∨ (q = 0 ∧ ∃ e' l' t' s' n' : Nat, e = (e' : Int) ∧ l = (l' : Int) ∧ t = (t' : Int) ∧ s = (s' : Int) ∧ n = (n' : Int) ∧ e' ≤ 16 ∧ l' ≤ 4611686018427387903 ∧ t' ≤ 4611686018427387903 ∧ s' ≤ 4611686018427387903 ∧ n' ≤ 4611686018427387903 ∧ B = repB e' g [l', t', s', n'])) ∧
      (∀ w, Calls Try.prog 46 #[repV e g l t s n] w (RetBE B q w)) ∧ (∀ w, Calls Try.prog 47 #[repV e g l t s n] w (RetBE B q w)) := by
  by_cases he : e < 0 ∨ 16 < e
  · exact ⟨1, [], .inl ⟨rfl, rfl, fun h => by omega⟩, fun w => reply_e w e g l t s n he, fun w => docReply_e w e g l t s n he⟩
  have he0 : 0 ≤ e := by omega
  have he16 : e ≤ 16 := by omega
  obtain ⟨e', rfl⟩ := Int.eq_ofNat_of_zero_le he0
  have he' : e' ≤ 16 := by omega
  have hR : ∀ w, Calls Try.prog 46 #[repV (e' : Int) g l t s n] w (RetRep (e' : Int) g [l, t, s, n] w) := fun w => by
    cases g with
    | false => exact reply_false w e' l t s n he'
    | true => exact reply_true w e' l t s n he'
  by_cases hok : okN l ∧ okN t ∧ okN s ∧ okN n
  · obtain ⟨⟨l0, l1⟩, ⟨t0, t1⟩, ⟨s0, s1⟩, ⟨n0, n1⟩⟩ := hok
    obtain ⟨l', rfl⟩ := Int.eq_ofNat_of_zero_le l0
    obtain ⟨t', rfl⟩ := Int.eq_ofNat_of_zero_le t0
    obtain ⟨s', rfl⟩ := Int.eq_ofNat_of_zero_le s0
    obtain ⟨n', rfl⟩ := Int.eq_ofNat_of_zero_le n0
    refine ⟨0, repB e' g [l', t', s', n'], .inr ⟨rfl, e', l', t', s', n', rfl, rfl, rfl, rfl, rfl, he', by omega, by omega, by omega, by omega, rfl⟩, fun w => (hR w).mono ?_, fun w => ?_⟩
    · rintro x w' ⟨q, B, hI, hB⟩
      rcases hI with ⟨_, _, hno⟩ | ⟨rfl, _, _, ns, ⟨hln, hm, _⟩, rfl⟩
      · refine absurd ⟨he0, he16, fun y hy => ?_⟩ hno
        simp only [List.mem_cons, List.not_mem_nil, or_false] at hy
        rcases hy with rfl | rfl | rfl | rfl
        · exact ⟨l0, l1⟩
        · exact ⟨t0, t1⟩
        · exact ⟨s0, s1⟩
        · exact ⟨n0, n1⟩
      · have e1 : ns = [l', t', s', n'] := by
          match ns, hln, hm with
          | [a, b, c, d], _, hm =>
            simp only [List.map_cons, List.map_nil, List.take, List.cons.injEq, and_true] at hm
            obtain ⟨h1, h2, h3, h4⟩ := hm
            rw [show a = l' by omega, show b = t' by omega, show c = s' by omega, show d = n' by omega]
        rw [e1] at hB
        simpa using hB
    · cases g with
      | false => exact docReply_false w e' l' t' s' n' he' (by omega) (by omega) (by omega) (by omega)
      | true => exact docReply_true w e' l' t' s' n' he' (by omega) (by omega) (by omega) (by omega)
  · refine ⟨1, [], .inl ⟨rfl, rfl, fun h => hok h.2.2⟩, fun w => (hR w).mono ?_, fun w => docReply_n w _ g l t s n he0 he16 hok⟩
    rintro x w' ⟨q, B, hI, hB⟩
    rcases hI with ⟨rfl, rfl, _⟩ | ⟨_, _, _, ns, ⟨hl, hm, hb⟩, _⟩
    · exact hB
    · refine absurd ?_ hok
      match ns, hl, hm, hb with
      | [a, b, c, d], _, hm, hb =>
        simp only [List.map_cons, List.map_nil, List.take, List.cons.injEq, and_true] at hm
        obtain ⟨rfl, rfl, rfl, rfl⟩ := hm
        simp only [List.mem_cons, List.not_mem_nil, or_false, forall_eq_or_imp, forall_eq] at hb
        unfold okN
        omega

set_option maxHeartbeats 1000000 in
theorem readRep_err (w : World) (A : Option Addr) (n c : Nat) (q : Int) (hq : (q == 0) = false) (ys : List Nat) (hr : Rd w A (vals .u8 ys))
    (hC : ∀ W g, Rd W A (vals .u8 ys) → w.heap.size ≤ W.heap.size → w.heap.size ≤ g → g < W.heap.size → W.heap[g]? = some (.cells repZ 82 (0, 0)) → Calls Try.prog 70 #[.slice A n c, .func (.func 74) #[] #[.pointer (some ⟨g, 0, none⟩)]] W fun e w' => e = .returned (.int .i64 q) ∧ W.grownBy w' (some g)) :
    Calls Try.prog 48 #[.slice A n c] w (RetE (.tuple #[repZV, .int .i64 q]) w) := by
  have hmf : ∀ (fn : Fn) (first cap : Array Value) (w : World), (Instr.makeFunc fn first cap).run Try.prog w = .ok (.func fn first cap) w := fun _ _ _ _ => rfl
  have HC := Lib.hid hC; have Hr := Lib.hid hr; clear hC hr
  have hq' : (q != 0) = true := by simp [bne, hq]
  go_enter Try.func48, Try.ntmps48
  go_wp2_with fail
  refine (HC.out _ (w.heap.size + 1) ((Hr.out.alloc _).alloc _) (by simp; omega) (by omega) (by simp) (blk_newk _ _ (by simp))).mono ?_
  rintro e w2 ⟨rfl, hG⟩
  have K := Lib.hid (blk_grown (blk_past (blk_new w (.cells repZ 82 (0, 0))) _) hG (by omega))
  have hx := ext_grown (((Ext.refl w).alloc _).alloc _) hG (by omega)
  clear hG
  have k0 := blk_cell K.out 0; have k1 := blk_cell K.out 1; have k2 := blk_cell K.out 2; have k3 := blk_cell K.out 3; have k4 := blk_cell K.out 4; have k5 := blk_cell K.out 5
  have f0 := blk_frozen K.out 0; have f1 := blk_frozen K.out 1; have f2 := blk_frozen K.out 2; have f3 := blk_frozen K.out 3; have f4 := blk_frozen K.out 4; have f5 := blk_frozen K.out 5
  go_wp2_with fail
  refine bodyPost_ret (ret_rep2 rfl rfl (row6 K.out _ _ _ _ _ _)) rfl ?_
  exact ⟨rfl, ext_row6 hx (Nat.le_refl _) _ _ _ _ _ _⟩
theorem readRep_long (w : World) (A : Option Addr) (n c : Nat) (ys : List Nat) (hr : Rd w A (vals .u8 ys)) (hn : 4096 < n) :
    Calls Try.prog 48 #[.slice A n c] w (RetE (.tuple #[repZV, .int .i64 2]) w) := by
  refine readRep_err w A n c 2 rfl ys hr fun W g hR hs1 hs2 hs3 hc => ?_
  exact (read_long W A n c _ hn).mono fun e w' ⟨he, hx⟩ => ⟨he, grown_none hx _⟩
theorem readRep_wrong (w : World) (A : Option Addr) (n c : Nat) (ys : List Nat) (hl : ys.length = n) (hn : n ≤ 4096) (hnc : n ≤ c) (hr : Rd w A (vals .u8 ys))
    (H : ∀ W r S g, IsWs W r S ys → Calls Try.prog 74 #[.pointer (some ⟨r, 0, none⟩), .pointer (some ⟨g, 0, none⟩)] W (WrongR W r)) :
    Calls Try.prog 48 #[.slice A n c] w (RetE (.tuple #[repZV, .int .i64 3]) w) := by
  refine readRep_err w A n c 3 rfl ys hr fun W g hR hs1 hs2 hs3 hc => ?_
  exact read_wrongP W A n c g ys hl hn hnc hR hs3 w.heap.size hs1 (rd_blk hr) fun W' r hI hrr hgW hss => H W' r w.heap.size g hI
theorem readRep_more (w : World) (A : Option Addr) (n c e l t s m : Nat) (gb : Bool) (rest : List Nat) (hrest : rest ≠ []) (hrb : ∀ x ∈ rest, x < 256) (hl' : (repB e gb [l, t, s, m] ++ rest).length = n) (hn : n ≤ 4096) (hnc : n ≤ c) (he : e ≤ 16) (hl : l ≤ 4611686018427387903) (ht : t ≤ 4611686018427387903) (hs : s ≤ 4611686018427387903) (hm : m ≤ 4611686018427387903) (hr : Rd w A (vals .u8 (repB e gb [l, t, s, m] ++ rest))) :
    Calls Try.prog 48 #[.slice A n c] w (RetE (.tuple #[repZV, .int .i64 3]) w) := by
  refine readRep_err w A n c 3 rfl _ hr fun W g hR hs1 hs2 hs3 hc => ?_
  exact read_moreP W A n c g 82 (fun _ _ => #[.int .i64 (e : Int), .bool gb, .int .i64 (l : Int), .int .i64 (t : Int), .int .i64 (s : Int), .int .i64 (m : Int)]) _ [] rest hrest hl' hn hnc hR hs3 w.heap.size hs1 (rd_blk hr) fun W' r hI hrr hgW hss => byRep W' r w.heap.size g e l t s m gb (by omega) he hl ht hs hm rest hrb hI hs2 (by omega) (by omega) (hgW.trans hc)

/-- eight bytes that are a number -/
def Good8 (u : List Nat) : Prop := 8 ≤ u.length ∧ numB (u.take 8) ≤ 4611686018427387903
theorem good_split {u : List Nat} (hb : ∀ x ∈ u, x < 256) (h : Good8 u) : u = wordB (numB (u.take 8)) 8 ++ u.drop 8 := by
  have e := wordB_of (u.take 8) 8 _ (fun x hx => hb x (List.mem_of_mem_take hx)) (by rw [List.length_take]; have := h.1; omega) rfl
  rw [e, List.take_append_drop]
theorem bad_chunk {z : List Nat} {k : Nat} (hl : z.length = 32) (hk : k < 4) (h : ¬ Good8 (z.drop (8 * k))) : ∃ k : Nat, k < 4 ∧ 4611686018427387903 < numB (chunk z k) := by
  refine ⟨k, hk, Nat.lt_of_not_le fun hle => h ⟨by rw [List.length_drop]; omega, hle⟩⟩
/-- what ReadReply and DocReadReply answer -/
theorem readRep_cases (ys : List Nat) (n : Nat) (hl : ys.length = n) (hb : ∀ x ∈ ys, x < 256) :
    (∃ q : Int, (q == 0) = false ∧ (∀ w B d, Rd w B (vals .u8 ys) → n ≤ d → Calls Try.prog 48 #[.slice B n d] w (RetE (.tuple #[repZV, .int .i64 q]) w)) ∧ (∀ w B d, Rd w B (vals .u8 ys) → n ≤ d → Calls Try.prog 49 #[.slice B n d] w (RetE (.tuple #[repZV, .int .i64 q]) w))) ∨
    (∃ (e l t s m : Nat) (gb : Bool), e ≤ 16 ∧ l ≤ 4611686018427387903 ∧ t ≤ 4611686018427387903 ∧ s ≤ 4611686018427387903 ∧ m ≤ 4611686018427387903 ∧ ys = repB e gb [l, t, s, m] ∧ n = 34 ∧
      (∀ w B d, Rd w B (vals .u8 ys) → n ≤ d → Calls Try.prog 48 #[.slice B n d] w (RetE (.tuple #[repV (e : Int) gb (l : Int) (t : Int) (s : Int) (m : Int), .int .i64 0]) w)) ∧ (∀ w B d, Rd w B (vals .u8 ys) → n ≤ d → Calls Try.prog 49 #[.slice B n d] w (RetE (.tuple #[repV (e : Int) gb (l : Int) (t : Int) (s : Int) (m : Int), .int .i64 0]) w))) := by
  by_cases hn : 4096 < n
  · exact .inl ⟨2, rfl, fun w B d hr _ => readRep_long w B n d ys hr hn, fun w B d _ _ => docRR_long w B n d hn⟩
  have hn' : n ≤ 4096 := by omega
  by_cases h2 : n < 2
  · exact .inl ⟨3, rfl, fun w B d hr hd => readRep_wrong w B n d ys hl hn' hd hr fun W r S g hI => byRep_few W r S g ys (by omega) hI, fun w B d _ _ => docRR_len w B n d hn' (by omega)⟩
  match ys, hl, hb with
  | [], hl, _ => simp at hl; omega
  | [_], hl, _ => simp at hl; omega
  | e :: x1 :: z, hl, hb =>
    have hez : e < 256 := hb e (by simp)
    have hxz : x1 < 256 := hb x1 (by simp)
    have hzb : ∀ x ∈ z, x < 256 := fun x hx => hb x (by simp [hx])
    have hzl : z.length + 2 = n := by simpa using hl
    by_cases hbad : 16 < e ∨ 1 < x1
    · refine .inl ⟨3, rfl, fun w B d hr hd => readRep_wrong w B n d _ hl hn' hd hr fun W r S g hI => byRep_head W r S g e x1 z hez hxz hbad hI, fun w B d hr _ => ?_⟩
      by_cases h34 : n = 34
      · obtain ⟨b, off, rfl, hc⟩ := hr (by simp [vals])
        exact docRR_head w b off n d e x1 h34 (hc 0 _ rfl) (hc 1 _ rfl) hbad
      · exact docRR_len w B n d hn' h34
    have he : e ≤ 16 := by omega
    have hx : x1 ≤ 1 := by omega
    -- the document's word on numbers that are wrong
    have hdoc : ∀ k, k < 4 → ¬ Good8 (z.drop (8 * k)) → ∀ w B d, Rd w B (vals .u8 (e :: x1 :: z)) → n ≤ d → Calls Try.prog 49 #[.slice B n d] w (RetE (.tuple #[repZV, .int .i64 3]) w) := fun k hk hno w B d hr hd => by
      by_cases h34 : n = 34
      · exact (docRR_any w B n d e x1 z h34 hd (by omega) hzb he hx hr).mono fun x w' h => h.2 (bad_chunk (by omega) hk hno)
      · exact docRR_len w B n d hn' h34
    have hdb : ∀ k, ∀ x ∈ z.drop k, x < 256 := fun k x hx => hzb x (List.mem_of_mem_drop hx)
    by_cases g0 : Good8 z
    · have s0 := good_split hzb g0
      by_cases g1 : Good8 (z.drop 8)
      · have s1 := good_split (hdb 8) g1
        rw [List.drop_drop] at s1
        by_cases g2 : Good8 (z.drop 16)
        · have s2 := good_split (hdb 16) g2
          rw [List.drop_drop] at s2
          by_cases g3 : Good8 (z.drop 24)
          · have s3 := good_split (hdb 24) g3
            rw [List.drop_drop] at s3
            have hgb : x1 = oneIf ((x1 : Int) == 1) := by
              have : x1 = 0 ∨ x1 = 1 := by omega
              rcases this with rfl | rfl <;> rfl
            have eB : e :: x1 :: z = repB e ((x1 : Int) == 1) [numB (z.take 8), numB ((z.drop 8).take 8), numB ((z.drop 16).take 8), numB ((z.drop 24).take 8)] ++ z.drop 32 := by
              simp only [repB, words, List.flatMap_cons, List.flatMap_nil, List.append_nil, List.cons_append, List.append_assoc]
              rw [← hgb, ← s3, ← s2, ← s1, ← s0]
            by_cases hrest : z.drop 32 = []
            · right
              have h32 : z.length = 32 := by
                have h1 := congrArg List.length hrest
                rw [List.length_drop] at h1
                have h3 := g3.1
                rw [List.length_drop] at h3
                simp at h1
                omega
              rw [hrest, List.append_nil] at eB
              refine ⟨e, numB (z.take 8), numB ((z.drop 8).take 8), numB ((z.drop 16).take 8), numB ((z.drop 24).take 8), ((x1 : Int) == 1), he, g0.2, g1.2, g2.2, g3.2, eB, by omega, fun w B d hr hd => ?_, fun w B d hr hd => ?_⟩
              · rw [eB] at hr
                exact readRep_ok w B n d e _ _ _ _ _ (by omega) hd he g0.2 g1.2 g2.2 g3.2 hr
              · refine (docRR_any w B n d e x1 z (by omega) hd h32 hzb he hx hr).mono fun x w' h => h.1 fun k hk => ?_
                rcases (show k = 0 ∨ k = 1 ∨ k = 2 ∨ k = 3 by omega) with rfl | rfl | rfl | rfl
                · exact g0.2
                · exact g1.2
                · exact g2.2
                · exact g3.2
            · refine .inl ⟨3, rfl, fun w B d hr hd => ?_, fun w B d _ _ => docRR_len w B n d hn' ?_⟩
              · rw [eB] at hr hl
                exact readRep_more w B n d e _ _ _ _ _ (z.drop 32) hrest (hdb 32) hl hn' hd he g0.2 g1.2 g2.2 g3.2 hr
              · intro h34
                apply hrest
                exact List.drop_of_length_le (by omega)
          · refine .inl ⟨3, rfl, fun w B d hr hd => readRep_wrong w B n d _ hl hn' hd hr fun W r S g hI => byRep_num3 W r S g e x1 _ _ _ (z.drop 24) he hx g0.2 g1.2 g2.2 (hdb 24) g3 ?_, hdoc 3 (by omega) g3⟩
            rw [← s2, ← s1, ← s0]; exact hI
        · refine .inl ⟨3, rfl, fun w B d hr hd => readRep_wrong w B n d _ hl hn' hd hr fun W r S g hI => byRep_num2 W r S g e x1 _ _ (z.drop 16) he hx g0.2 g1.2 (hdb 16) g2 ?_, hdoc 2 (by omega) g2⟩
          rw [← s1, ← s0]; exact hI
      · refine .inl ⟨3, rfl, fun w B d hr hd => readRep_wrong w B n d _ hl hn' hd hr fun W r S g hI => byRep_num1 W r S g e x1 _ (z.drop 8) he hx g0.2 (hdb 8) g1 ?_, hdoc 1 (by omega) g1⟩
        rw [← s0]; exact hI
    · exact .inl ⟨3, rfl, fun w B d hr hd => readRep_wrong w B n d _ hl hn' hd hr fun W r S g hI => byRep_num0 W r S g e x1 z he hx hzb g0 hI, hdoc 0 (by omega) g0⟩
end Go.Proofs.Ytkebkhgjoiiapaa
