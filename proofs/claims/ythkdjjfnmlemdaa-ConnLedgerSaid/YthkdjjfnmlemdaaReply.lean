/- wire.Reply and the document's DocReply. -/
import Derived.Test.YthkdjjfnmlemdaaWireC
namespace Go.Proofs.Ythkdjjfnmlemdaa
open Go.RowKit

abbrev repV (e : Int) (g : Bool) (l t s n : Int) : Value := .agg #[.int .i64 e, .bool g, .int .i64 l, .int .i64 t, .int .i64 s, .int .i64 n]
def words (ns : List Nat) : List Nat := ns.flatMap fun n => wordB n 8
def oneIf (g : Bool) : Nat := if g then 1 else 0
/-- a reply's bytes -/
def repB (e : Nat) (g : Bool) (ns : List Nat) : List Nat := e :: oneIf g :: words ns
theorem words_len (ns : List Nat) : (words ns).length = 8 * ns.length := by
  induction ns with
  | nil => rfl
  | cons n ns ih => show (wordB n 8 ++ words ns).length = _; rw [List.length_append, wordB_len, ih, List.length_cons]; omega
theorem words_snoc (ns : List Nat) (n : Nat) : words (ns ++ [n]) = words ns ++ wordB n 8 := by simp [words, List.flatMap_append]
theorem repB_len (e : Nat) (g : Bool) (ns : List Nat) : (repB e g ns).length = 8 * ns.length + 2 := by
  show (e :: oneIf g :: words ns).length = _
  rw [List.length_cons, List.length_cons, words_len]
theorem reply_e (w : World) (e : Int) (g : Bool) (l t s n : Int) (h : e < 0 ∨ 16 < e) : Calls Try.prog 42 #[repV e g l t s n] w (RetBE [] 1 w) := by
  rcases h with h | h
  · go_enter Try.func42, Try.ntmps42
    go_wp2_with fail
    go_ret2
    exact retBE_none ⟨rfl, (Ext.refl w).alloc _⟩
  · have h' : ¬ e < 0 := by omega
    go_enter Try.func42, Try.ntmps42
    go_wp2_with fail
    go_ret2
    exact retBE_none ⟨rfl, (Ext.refl w).alloc _⟩
def okN (n : Int) : Prop := 0 ≤ n ∧ n ≤ 4611686018427387903
/-- the numbers ahead of k are right; as natural numbers -/
def HeadOk (L : List Int) (k : Nat) (ns : List Nat) : Prop := ns.length = k ∧ ns.map (fun (x : Nat) => (x : Int)) = L.take k ∧ ∀ x ∈ ns, x ≤ 4611686018427387903
theorem headOk_succ {L : List Int} {k : Nat} {ns : List Nat} {v : Int} (h : HeadOk L k ns) (hv : L[k]? = some v) (h1 : 0 ≤ v) (h2 : v ≤ 4611686018427387903) : HeadOk L (k + 1) (ns ++ [v.toNat]) := by
  obtain ⟨a, b, c⟩ := h
  refine ⟨by simp [a], ?_, ?_⟩
  · rw [List.map_append, b, take_succ_of hv]
    simp only [List.map_cons, List.map_nil]
    rw [Int.toNat_of_nonneg h1]
  · intro x hx
    rcases List.mem_append.1 hx with hx | hx
    · exact c x hx
    · rw [List.mem_singleton.1 hx]; omega
/-- what Reply answers -/
def RepIs (e : Int) (g : Bool) (L : List Int) (q : Int) (B : List Nat) : Prop :=
  (q = 1 ∧ B = [] ∧ ¬ (0 ≤ e ∧ e ≤ 16 ∧ ∀ x ∈ L, okN x)) ∨ (q = 0 ∧ 0 ≤ e ∧ e ≤ 16 ∧ ∃ ns, HeadOk L 4 ns ∧ B = repB e.toNat g ns)
def RetRep (e : Int) (g : Bool) (L : List Int) (w : World) (x : Ending) (w' : World) : Prop := ∃ q B, RepIs e g L q B ∧ RetBE B q w x w'
theorem grown_row {w a b : World} {row row' : Option Nat} (h : w.grownBy a row) (k : a.grownBy b row') (hr : ∀ q, row' = some q → row = some q ∨ w.heap.size ≤ q) : w.grownBy b row :=
  ⟨k.os.trans h.os, k.tape.trans h.tape, k.output.trans h.output, Nat.le_trans h.size k.size, fun i hi hne => (k.block i (Nat.lt_of_lt_of_le hi h.size) (fun e => by
    rcases hr i e.symm with h' | h'
    · exact hne h'.symm
    · omega)).trans (h.block i hi hne)⟩
set_option maxHeartbeats 2000000 in
theorem wireNum2 (w : World) (base : Nat) (A : Option Addr) (m c : Nat) (xs : List Nat) (v : Nat) (hl : xs.length = m) (ho : w.ownsRow base 5 1 (.slice A m c) m (vals .u8 xs)) (hbw : base ≤ w.heap.size)
    (hv : v < 9223372036854775808) (hm : m ≤ 1000000) :
    Calls Try.prog 73 #[.slice A m c, .int .i64 (v : Int)] w fun e w' => ∃ A' c', e = .returned (.slice A' (m + 8) c') ∧ w'.ownsRow base 5 1 (.slice A' (m + 8) c') (m + 8) (vals .u8 (xs ++ wordB v 8)) ∧ w.grownBy w' (Value.slice A m c).ownBlock ∧
      ∀ q, (Value.slice A' (m + 8) c').ownBlock = some q → (Value.slice A m c).ownBlock = some q ∨ w.heap.size ≤ q := by
  have Ho := Lib.hid ho; have Hl := Lib.hid hl; clear ho hl
  go_enter Try.func73, Try.ntmps73
  go_wp2_with fail
  go_loopg [0, 5] 8 (fun g v0 v5 wr => ∃ (j : Nat) (A' : Option Addr) (c' : Nat), j ≤ 8 ∧ g = 8 - j ∧ v0 = .slice A' (m + j) c' ∧ v5 = .int .i64 (56 - 8 * (j : Int)) ∧ w.grownBy wr (Value.slice A m c).ownBlock ∧
    wr.ownsRow base 5 1 (.slice A' (m + j) c') (m + j) (vals .u8 (xs ++ (wordB v 8).take j)) ∧ ∀ q, (Value.slice A' (m + j) c').ownBlock = some q → (Value.slice A m c).ownBlock = some q ∨ w.heap.size ≤ q)
  case atStart =>
    exact ⟨0, A, c, Nat.zero_le _, rfl, rfl, by go_num, World.grownBy.refl _ _, by simpa using Ho.out, fun q hq => .inl hq⟩
  case round =>
    obtain ⟨j, A', c', hj, rfl, rfl, rfl, hxr, hor, hrow⟩ := hrel
    have Hxr := Lib.hid hxr; have Hrow := Lib.hid hrow; clear hxr hrow
    by_cases hlt : j < 8
    · have hg := wordB_get v 8 j hlt
      obtain ⟨t, ht⟩ : ∃ t, t = 8 * (7 - j) := ⟨_, rfl⟩
      have e1 : (56 - 8 * (j : Int)) = (t : Int) := by omega
      have e2 : v / 256 ^ (8 - 1 - j) % 256 = v / 2 ^ t % 256 := by
        rw [ht, show (256 : Nat) = 2 ^ 8 from rfl, ← Nat.pow_mul]
      rw [e2] at hg
      rw [e1]
      have Hg := Lib.hid hg
      have hib := Lib.hid (show ((v : Int) / 2 ^ t % 256) = ((v / 2 ^ t % 256 : Nat) : Int) by simp only [Int.natCast_emod, Int.natCast_ediv, Int.natCast_pow]; rfl)
      have ht56 : t ≤ 56 := by omega
      have Ht := Lib.hid ht
      have hsz : w.heap.size ≤ wr.heap.size := Hxr.out.size
      clear hg e1 e2 ht
      go_wp2_with (first | (at_builtin; refine app_u8 _ rfl (.tmp 10) (.tmp 16) rfl base rfl (hor.alloc _) rfl (m := 1) (news := [v / 2 ^ t % 256]) rfl (rd_one _ _ _ hib.out) (by omega) (by simp; omega) ?_; intro A1 c1 w1 hown1 hgrow1 hblk1) | fail)
      go_roundg (8 - (j + 1))
      case measure => omega
      case rel =>
        refine ⟨j + 1, A1, c1, hlt, rfl, rfl, by have := Ht.out; go_num, grown_row (grown_alloc Hxr.out _) hgrow1 Hrow.out, ?_, fun q hq => ?_⟩
        · rw [take_succ_of Hg.out, ← List.append_assoc]
          exact hown1
        · rcases hblk1 with h | h
          · exact Hrow.out q (h.symm.trans hq)
          · have h2 := h.symm.trans hq
            injection h2 with h2
            right; simp at h2; omega
    · obtain rfl : j = 8 := by omega
      have e : (wordB v 8).take 8 = wordB v 8 := List.take_of_length_le (by rw [wordB_len]; omega)
      rw [e] at hor
      have Hor := Lib.hid hor
      clear hor e
      go_wp2_with fail
      go_ret
      exact ⟨A', c', rfl, Hor.out, Hxr.out, Hrow.out⟩
theorem ext_none {w a : World} (h : w.grownBy a none) : Ext w a := ⟨h.os, h.tape, h.output, h.size, fun i hi => h.block i hi (by simp)⟩
set_option maxHeartbeats 4000000 in
set_option maxRecDepth 100000 in
theorem reply_false (w : World) (e : Nat) (l t s n : Int) (he : e ≤ 16) : Calls Try.prog 42 #[repV (e : Int) false l t s n] w (RetRep (e : Int) false [l, t, s, n] w) := by
  have hw : IntKind.u8.wrap (e : Int) = (e : Int) := by rw [IntKind.wrap_u8]; omega
  go_enter Try.func42, Try.ntmps42
  go_wp2_with fail
  go_loopg [4, 33] 4 (fun x v4 v33 wr => ∃ (k : Nat) (A : Option Addr) (c : Nat) (ns : List Nat), k ≤ 4 ∧ x = 4 - k ∧ v4 = .slice A (2 + 8 * k) c ∧ v33 = .int .i64 (k : Int) ∧ HeadOk [l, t, s, n] k ns ∧ w.grownBy wr none ∧
    wr.heap[w.heap.size + 1 + 1]? = some (.cells #[.int .i64 l, .int .i64 t, .int .i64 s, .int .i64 n] 2 (0, 0)) ∧ (Value.slice A (2 + 8 * k) c).ownBlock ≠ some (w.heap.size + 1 + 1) ∧
    wr.ownsRow (w.heap.size + 1) 5 1 (.slice A (2 + 8 * k) c) (2 + 8 * k) (vals .u8 (e :: oneIf false :: words ns)))
  case atStart =>
    refine ⟨0, some ⟨w.heap.size + 1, 0, none⟩, 2, [], by omega, rfl, rfl, rfl, ⟨rfl, rfl, by simp⟩, grown_alloc (grown_alloc (grown_alloc (World.grownBy.refl w none) _) _) _, blk_newk _ _ (by simp), by simp [Value.ownBlock], ?_⟩
    exact own_in (own_madek _ [.int .u8 (e : Int), .int .u8 0] 5 1 2 rfl (by unfold maxLen; omega) (by simp) (Nat.le_refl _)) _
  case round =>
    obtain ⟨k, A, c, ns, hk, rfl, rfl, rfl, hH, hG, hL, hne, ho⟩ := hrel
    have HH := Lib.hid hH; have HG := Lib.hid hG; have HL := Lib.hid hL; have Hne := Lib.hid hne; have Ho := Lib.hid ho
    clear hH hG hL hne ho
    by_cases hlt : k < 4
    · obtain ⟨v, hv⟩ : ∃ v : Int, ([l, t, s, n] : List Int)[k]? = some v := ⟨_, List.getElem?_eq_getElem hlt⟩
      have hcv : wr.cell? ⟨w.heap.size + 1 + 1, k, none⟩ = some (.int .i64 v) := by
        rw [blk_cell HL.out k]
        have hk4 : k = 0 ∨ k = 1 ∨ k = 2 ∨ k = 3 := by omega
        rcases hk4 with rfl | rfl | rfl | rfl <;> (simp at hv; subst hv; rfl)
      have Hv := Lib.hid hv; clear hv
      have hlen : (e :: oneIf false :: words ns).length = 2 + 8 * k := by
        rw [List.length_cons, List.length_cons, words_len, HH.out.1]; omega
      have Hlen := Lib.hid hlen; clear hlen
      have hws : w.heap.size + 1 + 1 < wr.heap.size := blk_lt HL.out
      by_cases hok : v < 0 ∨ 4611686018427387903 < v
      · have Hok := Lib.hid hok
        go_wp2_with fail
        refine (form_bad v _ hok).mono ?_
        rintro e' w1 ⟨rfl, rfl⟩
        go_wp2_with fail
        go_ret2
        refine ⟨1, [], .inl ⟨rfl, rfl, fun h => ?_⟩, retBE_none ⟨rfl, ext_none HG.out⟩⟩
        have := h.2.2 v (List.mem_of_getElem? Hv.out)
        have := Hok.out
        unfold okN at *
        omega
      · obtain ⟨V, rfl⟩ : ∃ V : Nat, v = (V : Int) := ⟨v.toNat, by omega⟩
        have hV : V ≤ 4611686018427387903 := by omega
        clear hok
        have C := Lib.hid (wireNum2 wr (w.heap.size + 1) A (2 + 8 * k) c _ V Hlen.out Ho.out (by omega) (by omega) (by omega))
        go_wp2_with fail
        refine (form_ok (V : Int) _ (by omega) (by omega)).mono ?_
        rintro e' w1 ⟨rfl, rfl⟩
        go_wp2_with fail
        refine C.out.mono ?_
        rintro e' w1 ⟨A1, c1, rfl, ho1, hg1, hr1⟩
        have Ho1 := Lib.hid ho1; have Hg1 := Lib.hid hg1; have Hr1 := Lib.hid hr1
        clear ho1 hg1 hr1 C
        go_wp2_with fail
        go_roundg (4 - (k + 1))
        case measure => omega
        case rel =>
          have hH := headOk_succ HH.out Hv.out (by omega) (by omega)
          rw [Int.toNat_natCast] at hH
          refine ⟨k + 1, A1, c1, ns ++ [V], by omega, rfl, by rw [show 2 + 8 * (k + 1) = 2 + 8 * k + 8 by omega], by go_num, hH, ?_, ?_, ?_, ?_⟩
          · exact grown_row HG.out Hg1.out (fun q hq => .inr (by have := own_ge Ho.out q hq; omega))
          · exact (Hg1.out.block _ (blk_lt HL.out) (fun e => Hne.out e.symm)).trans HL.out
          · rw [show 2 + 8 * (k + 1) = 2 + 8 * k + 8 by omega]
            intro h
            rcases Hr1.out _ h with h' | h'
            · exact Hne.out h'
            · omega
          · rw [words_snoc, show 2 + 8 * (k + 1) = 2 + 8 * k + 8 by omega]
            exact Ho1.out
    · obtain rfl : k = 4 := by omega
      go_wp2_with fail
      go_ret2
      refine ⟨0, repB e false ns, .inr ⟨rfl, by omega, by omega, ns, HH.out, rfl⟩, ?_⟩
      exact retBE_of (by rw [repB_len, HH.out.1]) (own_base Ho.out (by omega)) (ext_none HG.out)
set_option maxHeartbeats 4000000 in
set_option maxRecDepth 100000 in
theorem reply_true (w : World) (e : Nat) (l t s n : Int) (he : e ≤ 16) : Calls Try.prog 42 #[repV (e : Int) true l t s n] w (RetRep (e : Int) true [l, t, s, n] w) := by
  have hw : IntKind.u8.wrap (e : Int) = (e : Int) := by rw [IntKind.wrap_u8]; omega
  go_enter Try.func42, Try.ntmps42
  go_wp2_with fail
  go_loopg [4, 33] 4 (fun x v4 v33 wr => ∃ (k : Nat) (A : Option Addr) (c : Nat) (ns : List Nat), k ≤ 4 ∧ x = 4 - k ∧ v4 = .slice A (2 + 8 * k) c ∧ v33 = .int .i64 (k : Int) ∧ HeadOk [l, t, s, n] k ns ∧ w.grownBy wr none ∧
    wr.heap[w.heap.size + 1 + 1]? = some (.cells #[.int .i64 l, .int .i64 t, .int .i64 s, .int .i64 n] 2 (0, 0)) ∧ (Value.slice A (2 + 8 * k) c).ownBlock ≠ some (w.heap.size + 1 + 1) ∧
    wr.ownsRow (w.heap.size + 1) 5 1 (.slice A (2 + 8 * k) c) (2 + 8 * k) (vals .u8 (e :: oneIf true :: words ns)))
  case atStart =>
    refine ⟨0, some ⟨w.heap.size + 1, 0, none⟩, 2, [], by omega, rfl, rfl, rfl, ⟨rfl, rfl, by simp⟩, grown_alloc (grown_alloc (grown_alloc (World.grownBy.refl w none) _) _) _, blk_newk _ _ (by simp), by simp [Value.ownBlock], ?_⟩
    exact own_in (own_madek _ [.int .u8 (e : Int), .int .u8 1] 5 1 2 rfl (by unfold maxLen; omega) (by simp) (Nat.le_refl _)) _
  case round =>
    obtain ⟨k, A, c, ns, hk, rfl, rfl, rfl, hH, hG, hL, hne, ho⟩ := hrel
    have HH := Lib.hid hH; have HG := Lib.hid hG; have HL := Lib.hid hL; have Hne := Lib.hid hne; have Ho := Lib.hid ho
    clear hH hG hL hne ho
    by_cases hlt : k < 4
    · obtain ⟨v, hv⟩ : ∃ v : Int, ([l, t, s, n] : List Int)[k]? = some v := ⟨_, List.getElem?_eq_getElem hlt⟩
      have hcv : wr.cell? ⟨w.heap.size + 1 + 1, k, none⟩ = some (.int .i64 v) := by
        rw [blk_cell HL.out k]
        have hk4 : k = 0 ∨ k = 1 ∨ k = 2 ∨ k = 3 := by omega
        rcases hk4 with rfl | rfl | rfl | rfl <;> (simp at hv; subst hv; rfl)
      have Hv := Lib.hid hv; clear hv
      have hlen : (e :: oneIf true :: words ns).length = 2 + 8 * k := by
        rw [List.length_cons, List.length_cons, words_len, HH.out.1]; omega
      have Hlen := Lib.hid hlen; clear hlen
      have hws : w.heap.size + 1 + 1 < wr.heap.size := blk_lt HL.out
      by_cases hok : v < 0 ∨ 4611686018427387903 < v
      · have Hok := Lib.hid hok
        go_wp2_with fail
        refine (form_bad v _ hok).mono ?_
        rintro e' w1 ⟨rfl, rfl⟩
        go_wp2_with fail
        go_ret2
        refine ⟨1, [], .inl ⟨rfl, rfl, fun h => ?_⟩, retBE_none ⟨rfl, ext_none HG.out⟩⟩
        have := h.2.2 v (List.mem_of_getElem? Hv.out)
        have := Hok.out
        unfold okN at *
        omega
      · obtain ⟨V, rfl⟩ : ∃ V : Nat, v = (V : Int) := ⟨v.toNat, by omega⟩
        have hV : V ≤ 4611686018427387903 := by omega
        clear hok
        have C := Lib.hid (wireNum2 wr (w.heap.size + 1) A (2 + 8 * k) c _ V Hlen.out Ho.out (by omega) (by omega) (by omega))
        go_wp2_with fail
        refine (form_ok (V : Int) _ (by omega) (by omega)).mono ?_
        rintro e' w1 ⟨rfl, rfl⟩
        go_wp2_with fail
        refine C.out.mono ?_
        rintro e' w1 ⟨A1, c1, rfl, ho1, hg1, hr1⟩
        have Ho1 := Lib.hid ho1; have Hg1 := Lib.hid hg1; have Hr1 := Lib.hid hr1
        clear ho1 hg1 hr1 C
        go_wp2_with fail
        go_roundg (4 - (k + 1))
        case measure => omega
        case rel =>
          have hH := headOk_succ HH.out Hv.out (by omega) (by omega)
          rw [Int.toNat_natCast] at hH
          refine ⟨k + 1, A1, c1, ns ++ [V], by omega, rfl, by rw [show 2 + 8 * (k + 1) = 2 + 8 * k + 8 by omega], by go_num, hH, ?_, ?_, ?_, ?_⟩
          · exact grown_row HG.out Hg1.out (fun q hq => .inr (by have := own_ge Ho.out q hq; omega))
          · exact (Hg1.out.block _ (blk_lt HL.out) (fun e => Hne.out e.symm)).trans HL.out
          · rw [show 2 + 8 * (k + 1) = 2 + 8 * k + 8 by omega]
            intro h
            rcases Hr1.out _ h with h' | h'
            · exact Hne.out h'
            · omega
          · rw [words_snoc, show 2 + 8 * (k + 1) = 2 + 8 * k + 8 by omega]
            exact Ho1.out
    · obtain rfl : k = 4 := by omega
      go_wp2_with fail
      go_ret2
      refine ⟨0, repB e true ns, .inr ⟨rfl, by omega, by omega, ns, HH.out, rfl⟩, ?_⟩
      exact retBE_of (by rw [repB_len, HH.out.1]) (own_base Ho.out (by omega)) (ext_none HG.out)
end Go.Proofs.Ythkdjjfnmlemdaa
