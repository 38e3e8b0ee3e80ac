/- Laid together: what 'ConnOrder' needs, part 4 of 6. -/
import Derived.Deep.AppendSrc
import Derived.Laws.IdiomCopy
import Derived.Laws.OwnMore
import Derived.Lib.SliceRun
import Derived.Shelf.Spec.SlicesInsertGrow
import Derived.Shelf.Slices.Delete
import Derived.Deep.DeepCutAuto
import Derived.Deep.RegionHeld3
import Derived.Shelf.Bytes.SlSmallAll
import Derived.OrdersHeld
import Derived.Deep.RegionHeld
import Derived.Test.YthkdjjfnmlemdaaBConnOrder1
import Derived.Test.YthkdjjfnmlemdaaBConnOrder3
namespace Go.Proofs.Ythkdjjfnmlemdaa

section
open Go.RowKit

abbrev repV (e : Int) (g : Bool) (l t s n : Int) : Value := .agg #[.int .i64 e, .bool g, .int .i64 l, .int .i64 t, .int .i64 s, .int .i64 n]
def words (ns : List Nat) : List Nat := ns.flatMap fun n => wordB n 8
def oneIf (g : Bool) : Nat := if g then 1 else 0
/-- a reply's bytes -/
def repB (e : Nat) (g : Bool) (ns : List Nat) : List Nat := e :: oneIf g :: words ns
theorem words_len (ns : List Nat) : (words ns).length = 8 * ns.length := by
  induction ns with
  | nil => rfl
  | cons n ns ih => show (wordB n 8 ++ words ns).length = _; rw [List.length_append, wordB_len, ih, List.length_cons]; omega
theorem words_snoc (ns : List Nat) (n : Nat) : words (ns ++ [n]) = words ns ++ wordB n 8 := by simp [words, List.flatMap_append]
theorem repB_len (e : Nat) (g : Bool) (ns : List Nat) : (repB e g ns).length = 8 * ns.length + 2 := by
  show (e :: oneIf g :: words ns).length = _
  rw [List.length_cons, List.length_cons, words_len]
theorem reply_e (w : World) (e : Int) (g : Bool) (l t s n : Int) (h : e < 0 ∨ 16 < e) : Calls Try.prog 42 #[repV e g l t s n] w (RetBE [] 1 w) := by
  rcases h with h | h
  · go_enter Try.func42, Try.ntmps42
    go_wp2_with fail
    go_ret2
    exact retBE_none ⟨rfl, (Ext.refl w).alloc _⟩
  · have h' : ¬ e < 0 := by omega
    go_enter Try.func42, Try.ntmps42
    go_wp2_with fail
    go_ret2
    exact retBE_none ⟨rfl, (Ext.refl w).alloc _⟩
def okN (n : Int) : Prop := 0 ≤ n ∧ n ≤ 4611686018427387903
/-- the numbers ahead of k are right; as natural numbers -/
def HeadOk (L : List Int) (k : Nat) (ns : List Nat) : Prop := ns.length = k ∧ ns.map (fun (x : Nat) => (x : Int)) = L.take k ∧ ∀ x ∈ ns, x ≤ 4611686018427387903
theorem headOk_succ {L : List Int} {k : Nat} {ns : List Nat} {v : Int} (h : HeadOk L k ns) (hv : L[k]? = some v) (h1 : 0 ≤ v) (h2 : v ≤ 4611686018427387903) : HeadOk L (k + 1) (ns ++ [v.toNat]) := by
  obtain ⟨a, b, c⟩ := h
  refine ⟨by simp [a], ?_, ?_⟩
  · rw [List.map_append, b, take_succ_of hv]
    simp only [List.map_cons, List.map_nil]
    rw [Int.toNat_of_nonneg h1]
  · intro x hx
    rcases List.mem_append.1 hx with hx | hx
    · exact c x hx
    · rw [List.mem_singleton.1 hx]; omega
/-- what Reply answers -/
def RepIs (e : Int) (g : Bool) (L : List Int) (q : Int) (B : List Nat) : Prop :=
  (q = 1 ∧ B = [] ∧ ¬ (0 ≤ e ∧ e ≤ 16 ∧ ∀ x ∈ L, okN x)) ∨ (q = 0 ∧ 0 ≤ e ∧ e ≤ 16 ∧ ∃ ns, HeadOk L 4 ns ∧ B = repB e.toNat g ns)
def RetRep (e : Int) (g : Bool) (L : List Int) (w : World) (x : Ending) (w' : World) : Prop := ∃ q B, RepIs e g L q B ∧ RetBE B q w x w'
theorem grown_row {w a b : World} {row row' : Option Nat} (h : w.grownBy a row) (k : a.grownBy b row') (hr : ∀ q, row' = some q → row = some q ∨ w.heap.size ≤ q) : w.grownBy b row :=
  ⟨k.os.trans h.os, k.tape.trans h.tape, k.output.trans h.output, Nat.le_trans h.size k.size, fun i hi hne => (k.block i (Nat.lt_of_lt_of_le hi h.size) (fun e => by
    rcases hr i e.symm with h' | h'
    · exact hne h'.symm
    · omega)).trans (h.block i hi hne)⟩
set_option maxHeartbeats 2000000 in
theorem wireNum2 (w : World) (base : Nat) (A : Option Addr) (m c : Nat) (xs : List Nat) (v : Nat) (hl : xs.length = m) (ho : w.ownsRow base 5 1 (.slice A m c) m (vals .u8 xs)) (hbw : base ≤ w.heap.size)
    (hv : v < 9223372036854775808) (hm : m ≤ 1000000) :
    Calls Try.prog 73 #[.slice A m c, .int .i64 (v : Int)] w fun e w' => ∃ A' c', e = .returned (.slice A' (m + 8) c') ∧ w'.ownsRow base 5 1 (.slice A' (m + 8) c') (m + 8) (vals .u8 (xs ++ wordB v 8)) ∧ w.grownBy w' (Value.slice A m c).ownBlock ∧
      ∀ q, (Value.slice A' (m + 8) c').ownBlock = some q → (Value.slice A m c).ownBlock = some q ∨ w.heap.size ≤ q := by
  have Ho := Lib.hid ho; have Hl := Lib.hid hl; clear ho hl
  go_enter Try.func73, Try.ntmps73
  go_wp2_with fail
  go_loopg [0, 5] 8 (fun g v0 v5 wr => ∃ (j : Nat) (A' : Option Addr) (c' : Nat), j ≤ 8 ∧ g = 8 - j ∧ v0 = .slice A' (m + j) c' ∧ v5 = .int .i64 (56 - 8 * (j : Int)) ∧ w.grownBy wr (Value.slice A m c).ownBlock ∧
    wr.ownsRow base 5 1 (.slice A' (m + j) c') (m + j) (vals .u8 (xs ++ (wordB v 8).take j)) ∧ ∀ q, (Value.slice A' (m + j) c').ownBlock = some q → (Value.slice A m c).ownBlock = some q ∨ w.heap.size ≤ q)
  case atStart =>
    exact ⟨0, A, c, Nat.zero_le _, rfl, rfl, by go_num, World.grownBy.refl _ _, by simpa using Ho.out, fun q hq => .inl hq⟩
  case round =>
    obtain ⟨j, A', c', hj, rfl, rfl, rfl, hxr, hor, hrow⟩ := hrel
    have Hxr := Lib.hid hxr; have Hrow := Lib.hid hrow; clear hxr hrow
    by_cases hlt : j < 8
    · have hg := wordB_get v 8 j hlt
      obtain ⟨t, ht⟩ : ∃ t, t = 8 * (7 - j) := ⟨_, rfl⟩
      have e1 : (56 - 8 * (j : Int)) = (t : Int) := by omega
      have e2 : v / 256 ^ (8 - 1 - j) % 256 = v / 2 ^ t % 256 := by
        rw [ht, show (256 : Nat) = 2 ^ 8 from rfl, ← Nat.pow_mul]
      rw [e2] at hg
      rw [e1]
      have Hg := Lib.hid hg
      have hib := Lib.hid (show ((v : Int) / 2 ^ t % 256) = ((v / 2 ^ t % 256 : Nat) : Int) by simp only [Int.natCast_emod, Int.natCast_ediv, Int.natCast_pow]; rfl)
      have ht56 : t ≤ 56 := by omega
      have Ht := Lib.hid ht
      have hsz : w.heap.size ≤ wr.heap.size := Hxr.out.size
      clear hg e1 e2 ht
      go_wp2_with (first | (at_builtin; refine app_u8 _ rfl (.tmp 10) (.tmp 16) rfl base rfl (hor.alloc _) rfl (m := 1) (news := [v / 2 ^ t % 256]) rfl (rd_one _ _ _ hib.out) (by omega) (by simp; omega) ?_; intro A1 c1 w1 hown1 hgrow1 hblk1) | fail)
      go_roundg (8 - (j + 1))
      case measure => omega
      case rel =>
        refine ⟨j + 1, A1, c1, hlt, rfl, rfl, by have := Ht.out; go_num, grown_row (grown_alloc Hxr.out _) hgrow1 Hrow.out, ?_, fun q hq => ?_⟩
        · rw [take_succ_of Hg.out, ← List.append_assoc]
          exact hown1
        · rcases hblk1 with h | h
          · exact Hrow.out q (h.symm.trans hq)
          · have h2 := h.symm.trans hq
            injection h2 with h2
            right; simp at h2; omega
    · obtain rfl : j = 8 := by omega
      have e : (wordB v 8).take 8 = wordB v 8 := List.take_of_length_le (by rw [wordB_len]; omega)
      rw [e] at hor
      have Hor := Lib.hid hor
      clear hor e
      go_wp2_with fail
      go_ret
      exact ⟨A', c', rfl, Hor.out, Hxr.out, Hrow.out⟩
theorem ext_none {w a : World} (h : w.grownBy a none) : Ext w a := ⟨h.os, h.tape, h.output, h.size, fun i hi => h.block i hi (by simp)⟩
set_option maxHeartbeats 4000000 in
set_option maxRecDepth 100000 in
theorem reply_false (w : World) (e : Nat) (l t s n : Int) (he : e ≤ 16) : Calls Try.prog 42 #[repV (e : Int) false l t s n] w (RetRep (e : Int) false [l, t, s, n] w) := by
  have hw : IntKind.u8.wrap (e : Int) = (e : Int) := by rw [IntKind.wrap_u8]; omega
  go_enter Try.func42, Try.ntmps42
  go_wp2_with fail
  go_loopg [4, 33] 4 (fun x v4 v33 wr => ∃ (k : Nat) (A : Option Addr) (c : Nat) (ns : List Nat), k ≤ 4 ∧ x = 4 - k ∧ v4 = .slice A (2 + 8 * k) c ∧ v33 = .int .i64 (k : Int) ∧ HeadOk [l, t, s, n] k ns ∧ w.grownBy wr none ∧
    wr.heap[w.heap.size + 1 + 1]? = some (.cells #[.int .i64 l, .int .i64 t, .int .i64 s, .int .i64 n] 2 (0, 0)) ∧ (Value.slice A (2 + 8 * k) c).ownBlock ≠ some (w.heap.size + 1 + 1) ∧
    wr.ownsRow (w.heap.size + 1) 5 1 (.slice A (2 + 8 * k) c) (2 + 8 * k) (vals .u8 (e :: oneIf false :: words ns)))
  case atStart =>
    refine ⟨0, some ⟨w.heap.size + 1, 0, none⟩, 2, [], by omega, rfl, rfl, rfl, ⟨rfl, rfl, by simp⟩, grown_alloc (grown_alloc (grown_alloc (World.grownBy.refl w none) _) _) _, blk_newk _ _ (by simp), by simp [Value.ownBlock], ?_⟩
    exact own_in (own_madek _ [.int .u8 (e : Int), .int .u8 0] 5 1 2 rfl (by unfold maxLen; omega) (by simp) (Nat.le_refl _)) _
  case round =>
    obtain ⟨k, A, c, ns, hk, rfl, rfl, rfl, hH, hG, hL, hne, ho⟩ := hrel
    have HH := Lib.hid hH; have HG := Lib.hid hG; have HL := Lib.hid hL; have Hne := Lib.hid hne; have Ho := Lib.hid ho
    clear hH hG hL hne ho
    by_cases hlt : k < 4
    · obtain ⟨v, hv⟩ : ∃ v : Int, ([l, t, s, n] : List Int)[k]? = some v := ⟨_, List.getElem?_eq_getElem hlt⟩
      have hcv : wr.cell? ⟨w.heap.size + 1 + 1, k, none⟩ = some (.int .i64 v) := by
        rw [blk_cell HL.out k]
        have hk4 : k = 0 ∨ k = 1 ∨ k = 2 ∨ k = 3 := by omega
        rcases hk4 with rfl | rfl | rfl | rfl <;> (simp at hv; subst hv; rfl)
      have Hv := Lib.hid hv; clear hv
      have hlen : (e :: oneIf false :: words ns).length = 2 + 8 * k := by
        rw [List.length_cons, List.length_cons, words_len, HH.out.1]; omega
      have Hlen := Lib.hid hlen; clear hlen
      have hws : w.heap.size + 1 + 1 < wr.heap.size := blk_lt HL.out
      by_cases hok : v < 0 ∨ 4611686018427387903 < v
      · have Hok := Lib.hid hok
        go_wp2_with fail
        refine (form_bad v _ hok).mono ?_
        rintro e' w1 ⟨rfl, rfl⟩
        go_wp2_with fail
        go_ret2
        refine ⟨1, [], .inl ⟨rfl, rfl, fun h => ?_⟩, retBE_none ⟨rfl, ext_none HG.out⟩⟩
        have := h.2.2 v (List.mem_of_getElem? Hv.out)
        have := Hok.out
        unfold okN at *
        omega
      · obtain ⟨V, rfl⟩ : ∃ V : Nat, v = (V : Int) := ⟨v.toNat, by omega⟩
        have hV : V ≤ 4611686018427387903 := by omega
        clear hok
        have C := Lib.hid (wireNum2 wr (w.heap.size + 1) A (2 + 8 * k) c _ V Hlen.out Ho.out (by omega) (by omega) (by omega))
        go_wp2_with fail
        refine (form_ok (V : Int) _ (by omega) (by omega)).mono ?_
        rintro e' w1 ⟨rfl, rfl⟩
        go_wp2_with fail
        refine C.out.mono ?_
        rintro e' w1 ⟨A1, c1, rfl, ho1, hg1, hr1⟩
        have Ho1 := Lib.hid ho1; have Hg1 := Lib.hid hg1; have Hr1 := Lib.hid hr1
        clear ho1 hg1 hr1 C
        go_wp2_with fail
        go_roundg (4 - (k + 1))
        case measure => omega
        case rel =>
          have hH := headOk_succ HH.out Hv.out (by omega) (by omega)
          rw [Int.toNat_natCast] at hH
          refine ⟨k + 1, A1, c1, ns ++ [V], by omega, rfl, by rw [show 2 + 8 * (k + 1) = 2 + 8 * k + 8 by omega], by go_num, hH, ?_, ?_, ?_, ?_⟩
          · exact grown_row HG.out Hg1.out (fun q hq => .inr (by have := own_ge Ho.out q hq; omega))
          · exact (Hg1.out.block _ (blk_lt HL.out) (fun e => Hne.out e.symm)).trans HL.out
          · rw [show 2 + 8 * (k + 1) = 2 + 8 * k + 8 by omega]
            intro h
            rcases Hr1.out _ h with h' | h'
            · exact Hne.out h'
            · omega
          · rw [words_snoc, show 2 + 8 * (k + 1) = 2 + 8 * k + 8 by omega]
            exact Ho1.out
    · obtain rfl : k = 4 := by omega
      go_wp2_with fail
      go_ret2
      refine ⟨0, repB e false ns, .inr ⟨rfl, by omega, by omega, ns, HH.out, rfl⟩, ?_⟩
      exact retBE_of (by rw [repB_len, HH.out.1]) (own_base Ho.out (by omega)) (ext_none HG.out)
set_option maxHeartbeats 4000000 in
set_option maxRecDepth 100000 in
theorem reply_true (w : World) (e : Nat) (l t s n : Int) (he : e ≤ 16) : Calls Try.prog 42 #[repV (e : Int) true l t s n] w (RetRep (e : Int) true [l, t, s, n] w) := by
  have hw : IntKind.u8.wrap (e : Int) = (e : Int) := by rw [IntKind.wrap_u8]; omega
  go_enter Try.func42, Try.ntmps42
  go_wp2_with fail
  go_loopg [4, 33] 4 (fun x v4 v33 wr => ∃ (k : Nat) (A : Option Addr) (c : Nat) (ns : List Nat), k ≤ 4 ∧ x = 4 - k ∧ v4 = .slice A (2 + 8 * k) c ∧ v33 = .int .i64 (k : Int) ∧ HeadOk [l, t, s, n] k ns ∧ w.grownBy wr none ∧
    wr.heap[w.heap.size + 1 + 1]? = some (.cells #[.int .i64 l, .int .i64 t, .int .i64 s, .int .i64 n] 2 (0, 0)) ∧ (Value.slice A (2 + 8 * k) c).ownBlock ≠ some (w.heap.size + 1 + 1) ∧
    wr.ownsRow (w.heap.size + 1) 5 1 (.slice A (2 + 8 * k) c) (2 + 8 * k) (vals .u8 (e :: oneIf true :: words ns)))
  case atStart =>
    refine ⟨0, some ⟨w.heap.size + 1, 0, none⟩, 2, [], by omega, rfl, rfl, rfl, ⟨rfl, rfl, by simp⟩, grown_alloc (grown_alloc (grown_alloc (World.grownBy.refl w none) _) _) _, blk_newk _ _ (by simp), by simp [Value.ownBlock], ?_⟩
    exact own_in (own_madek _ [.int .u8 (e : Int), .int .u8 1] 5 1 2 rfl (by unfold maxLen; omega) (by simp) (Nat.le_refl _)) _
  case round =>
    obtain ⟨k, A, c, ns, hk, rfl, rfl, rfl, hH, hG, hL, hne, ho⟩ := hrel
    have HH := Lib.hid hH; have HG := Lib.hid hG; have HL := Lib.hid hL; have Hne := Lib.hid hne; have Ho := Lib.hid ho
    clear hH hG hL hne ho
    by_cases hlt : k < 4
    · obtain ⟨v, hv⟩ : ∃ v : Int, ([l, t, s, n] : List Int)[k]? = some v := ⟨_, List.getElem?_eq_getElem hlt⟩
      have hcv : wr.cell? ⟨w.heap.size + 1 + 1, k, none⟩ = some (.int .i64 v) := by
        rw [blk_cell HL.out k]
        have hk4 : k = 0 ∨ k = 1 ∨ k = 2 ∨ k = 3 := by omega
        rcases hk4 with rfl | rfl | rfl | rfl <;> (simp at hv; subst hv; rfl)
      have Hv := Lib.hid hv; clear hv
      have hlen : (e :: oneIf true :: words ns).length = 2 + 8 * k := by
        rw [List.length_cons, List.length_cons, words_len, HH.out.1]; omega
      have Hlen := Lib.hid hlen; clear hlen
      have hws : w.heap.size + 1 + 1 < wr.heap.size := blk_lt HL.out
      by_cases hok : v < 0 ∨ 4611686018427387903 < v
      · have Hok := Lib.hid hok
        go_wp2_with fail
        refine (form_bad v _ hok).mono ?_
        rintro e' w1 ⟨rfl, rfl⟩
        go_wp2_with fail
        go_ret2
        refine ⟨1, [], .inl ⟨rfl, rfl, fun h => ?_⟩, retBE_none ⟨rfl, ext_none HG.out⟩⟩
        have := h.2.2 v (List.mem_of_getElem? Hv.out)
        have := Hok.out
        unfold okN at *
        omega
      · obtain ⟨V, rfl⟩ : ∃ V : Nat, v = (V : Int) := ⟨v.toNat, by omega⟩
        have hV : V ≤ 4611686018427387903 := by omega
        clear hok
        have C := Lib.hid (wireNum2 wr (w.heap.size + 1) A (2 + 8 * k) c _ V Hlen.out Ho.out (by omega) (by omega) (by omega))
        go_wp2_with fail
        refine (form_ok (V : Int) _ (by omega) (by omega)).mono ?_
        rintro e' w1 ⟨rfl, rfl⟩
        go_wp2_with fail
        refine C.out.mono ?_
        rintro e' w1 ⟨A1, c1, rfl, ho1, hg1, hr1⟩
        have Ho1 := Lib.hid ho1; have Hg1 := Lib.hid hg1; have Hr1 := Lib.hid hr1
        clear ho1 hg1 hr1 C
        go_wp2_with fail
        go_roundg (4 - (k + 1))
        case measure => omega
        case rel =>
          have hH := headOk_succ HH.out Hv.out (by omega) (by omega)
          rw [Int.toNat_natCast] at hH
          refine ⟨k + 1, A1, c1, ns ++ [V], by omega, rfl, by rw [show 2 + 8 * (k + 1) = 2 + 8 * k + 8 by omega], by go_num, hH, ?_, ?_, ?_, ?_⟩
          · exact grown_row HG.out Hg1.out (fun q hq => .inr (by have := own_ge Ho.out q hq; omega))
          · exact (Hg1.out.block _ (blk_lt HL.out) (fun e => Hne.out e.symm)).trans HL.out
          · rw [show 2 + 8 * (k + 1) = 2 + 8 * k + 8 by omega]
            intro h
            rcases Hr1.out _ h with h' | h'
            · exact Hne.out h'
            · omega
          · rw [words_snoc, show 2 + 8 * (k + 1) = 2 + 8 * k + 8 by omega]
            exact Ho1.out
    · obtain rfl : k = 4 := by omega
      go_wp2_with fail
      go_ret2
      refine ⟨0, repB e true ns, .inr ⟨rfl, by omega, by omega, ns, HH.out, rfl⟩, ?_⟩
      exact retBE_of (by rw [repB_len, HH.out.1]) (own_base Ho.out (by omega)) (ext_none HG.out)
end

section
open Go.RowKit

/-- many cells are stored -/
theorem setCells_blk {b : Nat} {t : TypeId} : ∀ (ys : List Value) (w : World) (k : Nat) (cs : Array Value), w.heap[b]? = some (.cells cs t (0, 0)) → k + ys.length ≤ cs.size →
    ∃ cs', (w.setCells b k ys).heap[b]? = some (.cells cs' t (0, 0)) ∧ cs'.size = cs.size ∧ (∀ j, j < ys.length → cs'[k + j]? = ys[j]?) ∧ (∀ i, i < k ∨ k + ys.length ≤ i → cs'[i]? = cs[i]?) ∧ GB w (w.setCells b k ys) (· = b)
  | [], w, k, cs, h, _ => ⟨cs, h, rfl, fun j hj => absurd hj (Nat.not_lt_zero j), fun _ _ => rfl, GB.refl w _⟩
  | y :: ys, w, k, cs, h, hk => by
    simp only [List.length_cons] at hk
    obtain ⟨cs', h1, h2, h3, h4, h5⟩ := setCells_blk ys (w.setCell ⟨b, k, none⟩ y) (k + 1) _ (blk_set h k y) (by simpa using (by omega : k + 1 + ys.length ≤ cs.size))
    refine ⟨cs', h1, by simpa using h2, fun j hj => ?_, fun i hi => ?_, ((GB.refl w (· = b)).set b k y (.inl rfl)).trans h5 (fun i e => .inl e)⟩
    · cases j with
      | zero =>
        rw [Nat.add_zero, h4 k (.inl (by omega)), Array.getElem?_setIfInBounds_self_of_lt (by omega)]
        rfl
      | succ j =>
        rw [show k + (j + 1) = k + 1 + j by omega, h3 j (by simp only [List.length_cons] at hj; omega)]
        rfl
    · simp only [List.length_cons] at hi
      rw [h4 i (by omega), Array.getElem?_setIfInBounds_ne (by omega)]
/-- a slice of these values, s cells an element; ob: the block it lies in, if it has room for any -/
def OffS (w : World) (s : Nat) (ob : Option Nat) (v : Value) (n : Nat) (xs : List Value) : Prop :=
  ∃ (ao : Option Addr) (cap : Nat), v = .slice ao n cap ∧ n ≤ cap ∧ cap ≤ maxLen ∧ xs.length = n * s ∧
    ((cap = 0 ∧ ob = none) ∨ ∃ b off cs t, ob = some b ∧ ao = some ⟨b, off, none⟩ ∧ w.heap[b]? = some (.cells cs t (0, 0)) ∧ off + cap * s ≤ cs.size ∧ ∀ j u, xs[j]? = some u → cs[off + j]? = some u)
theorem OffS.gb {w w' : World} {S : Nat → Prop} {s : Nat} {ob : Option Nat} {v : Value} {n : Nat} {xs : List Value} (h : OffS w s ob v n xs) (g : GB w w' S) (hs : ∀ b, ob = some b → ¬ S b) : OffS w' s ob v n xs := by
  obtain ⟨ao, cap, h1, h2, h3, h4, h5⟩ := h
  refine ⟨ao, cap, h1, h2, h3, h4, h5.imp id ?_⟩
  rintro ⟨b, off, cs, t, e1, e2, e3, e4, e5⟩
  exact ⟨b, off, cs, t, e1, e2, g.blk e3 (hs b e1), e4, e5⟩
theorem OffS.ext {w w' : World} {s : Nat} {ob : Option Nat} {v : Value} {n : Nat} {xs : List Value} (h : OffS w s ob v n xs) (x : Ext w w') : OffS w' s ob v n xs := h.gb (GB.of_ext (fun _ => False) x) (fun _ _ => id)
theorem OffS.lt {w : World} {s : Nat} {ob : Option Nat} {v : Value} {n : Nat} {xs : List Value} (h : OffS w s ob v n xs) : ∀ b, ob = some b → b < w.heap.size := by
  obtain ⟨ao, cap, h1, h2, h3, h4, h5⟩ := h
  rcases h5 with ⟨_, e⟩ | ⟨b, off, cs, t, e1, _, e3, _⟩
  · intro b e'; rw [e] at e'; cases e'
  · intro b' e'; rw [e1] at e'; injection e' with e'; rw [← e']; exact blk_lt e3
theorem offS_nil (w : World) (s : Nat) : OffS w s none (.slice none 0 0) 0 [] := ⟨none, 0, rfl, Nat.le_refl _, Nat.zero_le _, by simp, .inl ⟨rfl, rfl⟩⟩
theorem OffS.shape {w : World} {s : Nat} {ob : Option Nat} {v : Value} {n : Nat} {xs : List Value} (h : OffS w s ob v n xs) : ∃ ao cap, v = .slice ao n cap ∧ n ≤ cap ∧ cap ≤ maxLen ∧ Rd w ao xs := by
  obtain ⟨ao, cap, h1, h2, h3, h4, h5⟩ := h
  refine ⟨ao, cap, h1, h2, h3, fun hne => ?_⟩
  rcases h5 with ⟨e0, _⟩ | ⟨b, off, cs, t, e1, e2, e3, e4, e5⟩
  · obtain rfl : n = 0 := by omega
    rw [Nat.zero_mul] at h4
    exact absurd (List.eq_nil_of_length_eq_zero h4) hne
  · exact ⟨b, off, e2, fun j u hu => (blk_cell e3 _).trans (e5 j u hu)⟩
theorem OffS.rd {w : World} {s : Nat} {ob : Option Nat} {ao : Option Addr} {n cap : Nat} {xs : List Value} (h : OffS w s ob (.slice ao n cap) n xs) : Rd w ao xs := by
  obtain ⟨ao', cap', h1, _, _, h4⟩ := h.shape
  injection h1 with h1
  rw [h1]
  exact h4
theorem OffS.drop {P : Program} {t e : TypeId} {s : Nat} (ht : P.underlying t = some (.slice e)) (hz : ∀ u : World, (sizeOf e).run P u = .ok s u) {w : World} {ob : Option Nat} {ao : Option Addr} {n cap : Nat} {xs : List Value} (h : OffS w s ob (.slice ao n cap) n xs) (k : Nat) (hk : k ≤ n) {ki : Int} (hki : ki = (k : Int)) :
    ∃ v' ob', (∀ u : World, (Instr.slice t (.slice ao n cap) (some (.int .i64 ki)) none none).run P u = .ok v' u) ∧ OffS w s ob' v' (n - k) (xs.drop (k * s)) ∧ ∀ b, ob' = some b → ob = some b := by
  obtain ⟨ao', cap', h1, h2, h3, h4, h5⟩ := h
  injection h1 with h1 _ h1'
  subst h1 h1'
  subst hki
  have he : P.elem t = e := by simp [Program.elem, ht]
  have hrun : ∀ u : World, (Instr.slice t (.slice ao n cap) (some (.int .i64 (k : Int))) none none).run P u = .ok (.slice (if cap = k then ao else ao.map (·.add (k * s))) (n - k) (cap - k)) u := fun u => by
    rw [run_slice_l (P := P) u t ao n cap (by rw [he]; exact ht) .i64 (k : Int) (by omega) (by omega), he, hz]
    simp only [Result.andThen, sliced, Int.toNat_natCast]
  have hlen : (xs.drop (k * s)).length = (n - k) * s := by rw [List.length_drop, h4, Nat.sub_mul]
  by_cases hck : cap = k
  · refine ⟨_, none, hrun, ⟨_, cap - k, rfl, by omega, by omega, hlen, .inl ⟨by omega, rfl⟩⟩, fun b e => by cases e⟩
  · rcases h5 with ⟨e0, _⟩ | ⟨b, off, cs, tt, e1, e2, e3, e4, e5⟩
    · omega
    · refine ⟨_, some b, hrun, ⟨_, cap - k, rfl, by omega, by omega, hlen, .inr ⟨b, off + k * s, cs, tt, rfl, by rw [if_neg hck, e2]; simp [Addr.add_lit], e3, ?_, fun j u hu => ?_⟩⟩, fun b' e => by rw [e1]; exact e⟩
      · have : k * s + (cap - k) * s = cap * s := by rw [← Nat.add_mul]; congr 1; omega
        omega
      · rw [Nat.add_assoc]
        exact e5 (k * s + j) u (by rw [← hu, List.getElem?_drop])
/-- one element more -/
theorem run_offS {P : Program} (w : World) (t ty e : TypeId) (i : TypeInfo) (z : Value) (ht : P.underlying t = some (.slice e)) (hi : P.info? e = some i) (hz : i.zero = some z) (hzs : z.cells.size = i.size) (hb : i.bytes ≤ 1000)
    {ob : Option Nat} {v : Value} {n : Nat} {xs : List Value} (h : OffS w i.size ob v n xs) (hn : n ≤ 1000000) (a : Addr) (c : Nat) (news : List Value) (hl : news.length = i.size) (hx : ∀ j u, news[j]? = some u → w.cell? (a.add j) = some u) (hx1 : ∀ u ∈ news, u.oneCell' = true) :
    ∃ v' w' ob', (Builtin.append_ #[t, t] ty #[v, .slice (some a) 1 c]).run P w = .ok v' w' ∧ OffS w' i.size ob' v' (n + 1) (xs ++ news) ∧ GB w w' (fun b => ob = some b) ∧ (ob' = ob ∨ ob' = some w.heap.size) := by
  obtain ⟨ao, cap, rfl, h2, h3, h4, h5⟩ := h
  have hsrc : Src P i.size t (.slice (some a) 1 c) 1 news w := Src.ofSlice (w := w) ht a 1 c news (by rw [Nat.one_mul]; exact hl) hx hx1
  have hnm : (n + 1) * i.size = n * i.size + i.size := by rw [Nat.add_mul, Nat.one_mul]
  by_cases hroom : n + 1 ≤ cap
  · rcases h5 with ⟨e0, _⟩ | ⟨b, off, cs, tt, e1, e2, e3, e4, e5⟩
    · omega
    · subst e2
      have hcm : (n + 1) * i.size ≤ cap * i.size := Nat.mul_le_mul_right _ hroom
      have hrun := run_append_room_src (P := P) w t t ty e i ht hi b off n cap (.slice (some a) 1 c) 1 news hsrc hroom (fun j hj => by
        rw [blk_cell e3, Array.getElem?_eq_getElem (by omega)]
        rfl) (fun j hj => blk_frozen e3 _)
      obtain ⟨cs', k1, k2, k3, k4, k5⟩ := setCells_blk (b := b) news w (off + n * i.size) cs e3 (by omega)
      refine ⟨_, _, ob, hrun, ?_, k5.more (fun i _ e => e ▸ e1), .inl rfl⟩
      refine ⟨_, cap, rfl, hroom, h3, by rw [List.length_append, h4, hl, hnm], .inr ⟨b, off, cs', tt, e1, rfl, k1, by omega, fun j u hu => ?_⟩⟩
      by_cases hj : j < n * i.size
      · rw [List.getElem?_append_left (by omega)] at hu
        rw [k4 _ (.inl (by omega))]
        exact e5 j u hu
      · rw [List.getElem?_append_right (by omega), h4] at hu
        have hjl := (List.getElem?_eq_some_iff.1 hu).1
        have := k3 (j - n * i.size) hjl
        rw [show off + n * i.size + (j - n * i.size) = off + j by omega] at this
        rw [this]
        exact hu
  · have hold : (Builtin.firstCells i.size n (.slice ao n cap)).run P w.drew = .ok xs.toArray w.drew := by
      rcases h5 with ⟨e0, _⟩ | ⟨b, off, cs, tt, e1, e2, e3, e4, e5⟩
      · obtain rfl : n = 0 := by omega
        rw [Nat.zero_mul] at h4
        obtain rfl : xs = [] := List.eq_nil_of_length_eq_zero h4
        cases ao with
        | none => exact run_firstCells_none w.drew i.size 0 0 cap
        | some a' => exact run_firstCells_some w.drew i.size 0 a' 0 cap [] (by simp) (by intro _ _ h'; simp at h')
      · subst e2
        refine run_firstCells_some w.drew i.size n ⟨b, off, none⟩ n cap xs h4 (fun j u hu => ?_)
        rw [Addr.add_lit]
        exact (blk_cell e3 _).trans (e5 j u hu)
    have hg : cap < n + 1 := by omega
    have hrun := run_append_grow_src (P := P) w t t ty e i z ht hi hz ao n cap xs hold (.slice (some a) 1 c) 1 news hsrc hg (by omega) (growslice_fits hg (Nat.le_trans (Nat.mul_le_mul (show n + 1 ≤ 1000001 by omega) hb) (by decide)))
    have hge := grownCap_ge w (n + 1) cap e
    have hcm := grownCap_le_maxLen w (n + 1) cap e (by unfold maxLen; omega)
    obtain ⟨GC, hGC⟩ : ∃ GC, grownCap w (n + 1) cap e = GC := ⟨_, rfl⟩
    rw [hGC] at hrun hge hcm
    refine ⟨_, _, some w.heap.size, hrun, ⟨_, _, rfl, hge, hcm, by rw [List.length_append, h4, hl, hnm], .inr ⟨w.heap.size, 0, _, e, rfl, rfl, blk_new w.drew _, ?_, fun j u hu => ?_⟩⟩, ((GB.refl w _).drew).alloc _, .inr rfl⟩
    · rw [Array.size_append, size_zeroCells, hzs, List.size_toArray, List.length_append, h4, hl]
      have : (GC - (n + 1)) * i.size + (n + 1) * i.size = GC * i.size := by rw [← Nat.add_mul]; congr 1; omega
      omega
    · rw [Nat.zero_add, Array.getElem?_append_left (by have := (List.getElem?_eq_some_iff.1 hu).1; simpa using this), List.getElem?_toArray]
      exact hu
end

section
open Go.RowKit

theorem own_sub {w : World} {base : Nat} {e : TypeId} {A : Option Addr} {n c : Nat} {xs : List Value} (h : w.ownsRow base e 1 (.slice A n c) n xs) {k : Nat} (hk : k ≤ n) : w.ownsRow base e 1 (.slice A k c) k (xs.take k) := by
  obtain ⟨hl, h⟩ := h
  refine ⟨by simp; omega, ?_⟩
  rcases h with ⟨h1, h2⟩ | ⟨g, cap, cur, h1, hb, hg, hnc, hcm, hcs, ht⟩
  · injection h1 with h1 h3 h4
    left
    exact ⟨by rw [h1, h4, show k = 0 by omega], by omega⟩
  · injection h1 with h1 h3 h4
    right
    refine ⟨g, cap, cur, by rw [h1, h4], hb, hg, by omega, hcm, hcs, ?_⟩
    rw [← ht, List.take_take]
    congr 1
    omega
theorem own_more {w : World} {base : Nat} {e : TypeId} {g n c : Nat} {xs : List Value} (h : w.ownsRow base e 1 (.slice (some ⟨g, 0, none⟩) n c) n xs) (hc : n < c) : ∃ u, w.ownsRow base e 1 (.slice (some ⟨g, 0, none⟩) (n + 1) c) (n + 1) (xs ++ [u]) := by
  obtain ⟨hl, h⟩ := h
  rcases h with ⟨h1, h2⟩ | ⟨g', cap, cur, h1, hb, hg, hnc, hcm, hcs, ht⟩
  · injection h1 with h1; cases h1
  · injection h1 with h1 h3 h4
    injection h1 with h1
    injection h1 with h1
    subst h1 h4
    have hn : n < cur.toList.length := by simp [hcs]; omega
    refine ⟨cur.toList[n], by simp; omega, .inr ⟨g, c, cur, rfl, hb, hg, by omega, hcm, hcs, ?_⟩⟩
    rw [Nat.mul_one] at ht ⊢
    rw [take_succ_of (List.getElem?_eq_getElem hn), ht]
/-- values laid one behind the other -/
def putAt (xs : List Value) : Nat → List Value → List Value
  | _, [] => xs
  | k, y :: ys => putAt (xs.set k y) (k + 1) ys
theorem putAt_eq : ∀ (ys xs : List Value) (k : Nat), k + ys.length ≤ xs.length → putAt xs k ys = xs.take k ++ (ys ++ xs.drop (k + ys.length))
  | [], xs, k, _ => by simp [putAt]
  | y :: ys, xs, k, h => by
    rw [List.length_cons] at h
    rw [putAt, putAt_eq ys (xs.set k y) (k + 1) (by simp; omega)]
    have h1 : (xs.set k y).take (k + 1) = xs.take k ++ [y] := by
      rw [take_succ_of (x := y) (by rw [List.getElem?_set_self (by omega)]), List.take_set_of_le (by omega)]
    have h2 : (xs.set k y).drop (k + 1 + ys.length) = xs.drop (k + (ys.length + 1)) := by
      rw [List.drop_set_of_lt (by omega)]
      congr 1
      omega
    rw [h1, h2]
    simp
theorem own_put {base : Nat} {e : TypeId} {g n c : Nat} : ∀ (ys : List Value) (w : World) (xs : List Value) (k : Nat), w.ownsRow base e 1 (.slice (some ⟨g, 0, none⟩) n c) n xs →
    (w.setCells g k ys).ownsRow base e 1 (.slice (some ⟨g, 0, none⟩) n c) n (putAt xs k ys) ∧ w.grownBy (w.setCells g k ys) (some g)
  | [], w, xs, k, h => ⟨h, World.grownBy.refl w _⟩
  | y :: ys, w, xs, k, h => by
    obtain ⟨h1, h2⟩ := h.stored k y
    obtain ⟨h3, h4⟩ := own_put ys _ _ (k + 1) h1
    exact ⟨h3, World.grown_trans h2 h4⟩
theorem own_some {w : World} {base : Nat} {e : TypeId} {A : Option Addr} {n c : Nat} {xs : List Value} (h : w.ownsRow base e 1 (.slice A n c) n xs) (hc : 0 < c) : ∃ g, A = some ⟨g, 0, none⟩ ∧ base ≤ g ∧ g < w.heap.size := by
  rcases h.2 with ⟨h1, h2⟩ | ⟨g, cap, cur, h1, hb, hg, _⟩
  · injection h1 with h1 h3 h4; omega
  · injection h1 with h1
    exact ⟨g, h1, hb, (Array.getElem?_eq_some_iff.1 hg).1⟩
end

section
open Go.RowKit

theorem own_sub_s {w : World} {base s : Nat} {e : TypeId} {A : Option Addr} {n c : Nat} {xs : List Value} (h : w.ownsRow base e s (.slice A n c) n xs) {k : Nat} (hk : k ≤ n) : w.ownsRow base e s (.slice A k c) k (xs.take (k * s)) := by
  obtain ⟨hl, h⟩ := h
  have hks : k * s ≤ n * s := Nat.mul_le_mul_right s hk
  refine ⟨by rw [List.length_take]; omega, ?_⟩
  rcases h with ⟨h1, h2⟩ | ⟨g, cap, cur, h1, hb, hg, hnc, hcm, hcs, ht⟩
  · injection h1 with h1 h3 h4
    left
    exact ⟨by rw [h1, h4, show k = 0 by omega], by omega⟩
  · injection h1 with h1 h3 h4
    right
    refine ⟨g, cap, cur, by rw [h1, h4], hb, hg, by omega, hcm, hcs, ?_⟩
    rw [← ht, List.take_take, Nat.min_eq_left hks]
theorem own_more_s {w : World} {base s : Nat} {e : TypeId} {g n c : Nat} {xs : List Value} (h : w.ownsRow base e s (.slice (some ⟨g, 0, none⟩) n c) n xs) (hc : n < c) : ∃ us, us.length = s ∧ w.ownsRow base e s (.slice (some ⟨g, 0, none⟩) (n + 1) c) (n + 1) (xs ++ us) := by
  obtain ⟨hl, h⟩ := h
  rcases h with ⟨h1, h2⟩ | ⟨g', cap, cur, h1, hb, hg, hnc, hcm, hcs, ht⟩
  · injection h1 with h1; cases h1
  · injection h1 with h1 h3 h4
    injection h1 with h1
    injection h1 with h1
    subst h1 h4
    have hm : (n + 1) * s ≤ c * s := Nat.mul_le_mul_right s (by omega)
    rw [Nat.add_mul, Nat.one_mul] at hm
    have hsz : cur.toList.length = c * s := by simpa using hcs
    refine ⟨(cur.toList.drop (n * s)).take s, by rw [List.length_take, List.length_drop]; omega, ?_, .inr ⟨g, c, cur, rfl, hb, hg, by omega, hcm, hcs, ?_⟩⟩
    · rw [List.length_append, hl, List.length_take, List.length_drop, Nat.add_mul, Nat.one_mul]; omega
    · rw [← ht, Nat.add_mul, Nat.one_mul, List.take_add]
theorem own_put_s {base s : Nat} {e : TypeId} {g n c : Nat} : ∀ (ys : List Value) (w : World) (xs : List Value) (k : Nat), w.ownsRow base e s (.slice (some ⟨g, 0, none⟩) n c) n xs →
    (w.setCells g k ys).ownsRow base e s (.slice (some ⟨g, 0, none⟩) n c) n (putAt xs k ys) ∧ w.grownBy (w.setCells g k ys) (some g)
  | [], w, xs, k, h => ⟨h, World.grownBy.refl w _⟩
  | y :: ys, w, xs, k, h => by
    obtain ⟨h1, h2⟩ := h.stored k y
    obtain ⟨h3, h4⟩ := own_put_s ys _ _ (k + 1) h1
    exact ⟨h3, World.grown_trans h2 h4⟩
theorem own_some_s {w : World} {base s : Nat} {e : TypeId} {A : Option Addr} {n c : Nat} {xs : List Value} (h : w.ownsRow base e s (.slice A n c) n xs) (hc : 0 < c) : ∃ g, A = some ⟨g, 0, none⟩ ∧ base ≤ g ∧ g < w.heap.size := by
  rcases h.2 with ⟨h1, h2⟩ | ⟨g, cap, cur, h1, hb, hg, _⟩
  · injection h1 with h1 h3 h4; omega
  · injection h1 with h1
    exact ⟨g, h1, hb, (Array.getElem?_eq_some_iff.1 hg).1⟩
variable {P : Program}
theorem run_copy_cells_s (w : World) (dT sT ty elem : TypeId) (s : Nat) (b o dLen dCap : Nat) (a : Addr) (sLen sCap m : Nat) (cs : List Value)
    (hu : P.underlying dT = some (.slice elem)) (hs : (P.info? elem).map (·.size) = some s) (hm : m = Nat.min sLen dLen) (hn : cs.length = m * s)
    (hsrc : ∀ j v, cs[j]? = some v → w.cell? (a.add j) = some v) (hc : ∀ j, j < cs.length → (w.cell? ⟨b, o + j, none⟩).isSome = true) (hf : ∀ j, j < cs.length → w.frozen? ⟨b, o + j, none⟩ = false) (h1 : ∀ v ∈ cs, v.oneCell' = true) :
    (Builtin.copy_ #[dT, sT] ty #[.slice (some ⟨b, o, none⟩) dLen dCap, .slice (some a) sLen sCap]).run P w = .ok (goInt m) (w.setCells b o cs) := by
  have hl := run_loadCells_list (P := P) w a cs hsrc
  have hst := run_storeCells_cells (P := P) b o cs 0 w (by simpa using hc) (by simpa using hf) h1
  cases hq : P.info? elem with
  | none => simp [hq] at hs
  | some i =>
    have hi : i.size = s := by simpa [hq] using hs
    subst hm
    simp [Builtin.copy_, run_underlying hu, Builtin.lenOf, Builtin.firstCells, sizeOf, typeInfo, hq, hi, ← hn, hl, hst]
theorem run_clear_cells_s (w : World) (t e ty : TypeId) (z : Value) (zs : List Value) (ht : P.underlying t = some (.slice e)) (hv : ∀ w, (zeroValue e).run P w = .ok z w) (b o n c : Nat) (hn : 0 < n) (hz : (Builtin.zeroCells z.cells n).toList = zs) (h1 : ∀ v ∈ zs, v.oneCell' = true)
    (hc : ∀ j, j < zs.length → (w.cell? ⟨b, o + j, none⟩).isSome = true) (hf : ∀ j, j < zs.length → w.frozen? ⟨b, o + j, none⟩ = false) :
    (Builtin.clear_ #[t] ty #[.slice (some ⟨b, o, none⟩) n c]).run P w = .ok (.tuple #[]) (w.setCells b o zs) := by
  have hst := run_storeCells_cells (P := P) b o zs 0 w (by simpa using hc) (by simpa using hf) h1
  simp only [Nat.add_zero] at hst
  obtain ⟨m, rfl⟩ : ∃ m, n = m + 1 := ⟨n - 1, by omega⟩
  simp [Builtin.clear_, run_underlying ht, hv, hz, hst]
/-- elements laid in at k -/
def insF (s : Nat) (xs : List Value) (k : Nat) (news : List Value) : List Value := xs.take (k * s) ++ (news ++ xs.drop (k * s))
def delF (s : Nat) (xs : List Value) (k : Nat) : List Value := xs.take (k * s) ++ xs.drop (k * s + s)
end

section
open Go.RowKit

theorem tk_info : (Try.prog.info? 53).map (fun i => (i.zero, i.size, i.bytes)) = some (some (.agg #[.int .i64 0, .slice none 0 0, .int .i64 0]), 3, 40) := by kernel_rfl
theorem tk_size : ∀ u : World, (sizeOf 53).run Try.prog u = .ok 3 u := fun _ => by kernel_rfl
theorem tk_info1 : (Try.prog.info? 53).map (·.size) = some 3 := by kernel_rfl
theorem tk_zero : ∀ w : World, (zeroValue 53).run Try.prog w = .ok (.agg #[.int .i64 0, .slice none 0 0, .int .i64 0]) w := fun _ => by kernel_rfl
theorem tk_zcells (n : Nat) : ((Builtin.zeroCells (Value.cells (.agg #[.int .i64 0, .slice none 0 0, .int .i64 0])) n).toList).length = n * 3 ∧ ∀ v ∈ (Builtin.zeroCells (Value.cells (.agg #[.int .i64 0, .slice none 0 0, .int .i64 0])) n).toList, v.oneCell' = true := by
  refine ⟨by rw [Array.length_toList, size_zeroCells]; rfl, fun v hv => ?_⟩
  simp only [Builtin.zeroCells, Array.toList_map, List.mem_map] at hv
  obtain ⟨i, _, rfl⟩ := hv
  have hi : i % 3 < 3 := Nat.mod_lt _ (by omega)
  show ((.agg #[.int .i64 0, .slice none 0 0, .int .i64 0] : Value).cells[i % 3]!).oneCell' = true
  have h9 : ∀ j, j < 3 → ((.agg #[.int .i64 0, .slice none 0 0, .int .i64 0] : Value).cells[j]!).oneCell' = true := by decide
  exact h9 _ hi
/-- append onto a row of one's own -/
theorem tk_app {ops : Array Oper} {rest : List Oper} {o : Oper} {a : Act} {Q : Exit → Act → World → Prop} (w : World) (hgd : o.guard = none) (s x : Operand)
    (ho : o.op = .call { callee := .builtin .append, args := #[s, x], argTypes := #[93, 93] })
    (base : Nat) {B : Option Addr} {n cb : Nat} {xs : List Value} (hs : a.eval s = .slice B n cb) (hown : w.ownsRow base 53 3 (.slice B n cb) n xs)
    {A : Option Addr} {m c : Nat} {news : List Value} (hx : a.eval x = .slice A m c) (hl : news.length = m * 3) (hr : Rd w A news) (h1 : ∀ u ∈ news, u.oneCell' = true) (hb : n + m ≤ 1000000) (hbase : base ≤ w.heap.size)
    (h : ∀ B' cb' w', w'.ownsRow base 53 3 (.slice B' (n + m) cb') (n + m) (xs ++ news) → w.grownBy w' (Value.slice B n cb).ownBlock →
      ((Value.slice B' (n + m) cb').ownBlock = (Value.slice B n cb).ownBlock ∨ (Value.slice B' (n + m) cb').ownBlock = some w.heap.size) → wpList Try.prog ops Q rest (a.put o.dst (.slice B' (n + m) cb')) w') :
    wpList Try.prog ops Q (o :: rest) a w := by
  obtain ⟨i0, hi, hz0, hz1, hz2⟩ := info_parts tk_info
  exact wpList_append_rd w hgd s x 93 ho base 53 Try.underlying93 hi hz0 hz1 hz2 rfl (by decide) hs hown hx hl hr h1 (by unfold maxLen; omega) (by omega) hbase h
theorem tk_nilq (w : World) (A : Option Addr) (n c n' c' : Nat) : (binOp .eql 93 (.slice A n c) (.slice none n' c')).run Try.prog w = .ok (.bool A.isNone) w := Lib.run_eql_slice_nil w _ _ A n c n' c' Try.underlying93
def tk_DelR (base : Nat) (A : Option Addr) (n c : Nat) (xs : List Value) (k : Nat) (w : World) (e : Ending) (w' : World) : Prop :=
  e = .returned (.slice A (n - 1) c) ∧ w'.ownsRow base 53 3 (.slice A (n - 1) c) (n - 1) (delF 3 xs k) ∧ w.grownBy w' (Value.slice A n c).ownBlock
set_option maxHeartbeats 4000000 in
set_option maxRecDepth 100000 in
theorem tk_delete (w : World) (base : Nat) (A : Option Addr) (n c k : Nat) (xs : List Value) (hx1 : ∀ u ∈ xs, u.oneCell' = true) (hn : n ≤ 100000) (hk : k < n) (ho : w.ownsRow base 53 3 (.slice A n c) n xs) :
    Calls Try.prog 88 #[.slice A n c, .int .i64 (k : Int), .int .i64 ((k : Int) + 1)] w (tk_DelR base A n c xs k w) := by
  have hl : xs.length = n * 3 := ho.1
  have hnc := own_cap ho
  obtain ⟨g, rfl, hg1, hg2⟩ := own_some_s ho (by omega)
  have hcm : c ≤ 9223372036854775807 := by
    rcases ho.2 with ⟨h3, h4⟩ | ⟨g, cap, cur, h3, _, _, _, h4, _⟩
    · omega
    · injection h3 with _ _ h3
      unfold maxLen at h4
      omega
  obtain ⟨i0, hi0, hz0, hz1, hz2⟩ := info_parts tk_info
  obtain ⟨news, hnews⟩ : ∃ news, xs.drop ((k + 1) * 3) = news := ⟨_, rfl⟩
  have hlen : news.length = (n - (k + 1)) * 3 := by rw [← hnews, List.length_drop, hl]; omega
  have hcell : ∀ j, j < n * 3 → w.cell? ⟨g, j, none⟩ = xs[j]? := fun j hj => ho.cellAt j hj
  obtain ⟨B, hA, hsrc⟩ : ∃ B : Addr, (if c = k + 1 then (some ⟨g, 0, none⟩ : Option Addr) else some ⟨g, (k + 1) * 3, none⟩) = some B ∧ Hid (∀ t u, news[t]? = some u → w.drew.cell? (B.add t) = some u) := by
    by_cases h : c = k + 1
    · refine ⟨⟨g, 0, none⟩, by simp [h], fun t u hu => ?_⟩
      have h0 : news.length = 0 := by rw [hlen]; omega
      rw [List.length_eq_zero_iff.1 h0] at hu
      simp at hu
    · refine ⟨⟨g, (k + 1) * 3, none⟩, by simp [h], fun t u hu => ?_⟩
      have ht : t < (n - (k + 1)) * 3 := by rw [← hlen]; exact (List.getElem?_eq_some_iff.1 hu).1
      rw [Addr.add_lit]
      refine (hcell ((k + 1) * 3 + t) (by omega)).trans ?_
      rw [← hu, ← hnews, List.getElem?_drop]
  have s1 : Hid (news.length = (n - (k + 1)) * 3) := hlen
  have s2 : Hid (∀ u ∈ news, u.oneCell' = true) := fun u hu => hx1 u (by rw [← hnews] at hu; exact List.mem_of_mem_drop hu)
  have s3 : Hid (∀ t, t < news.length → (w.drew.cell? ⟨g, 0 + k * 3 + t, none⟩).isSome = true ∧ w.drew.frozen? ⟨g, 0 + k * 3 + t, none⟩ = false) := fun t ht => by
    rw [hlen] at ht
    rw [Nat.zero_add]
    refine ⟨?_, ho.frozenAt _⟩
    show (w.cell? _).isSome = true
    rw [hcell _ (by omega), List.getElem?_eq_getElem (by omega)]; rfl
  obtain ⟨W1, hW1⟩ : ∃ W1, W1 = w.drew.setCells g (0 + k * 3) news := ⟨_, rfl⟩
  have hp1 := own_put_s news w.drew _ (0 + k * 3) ho.drew
  rw [← hW1] at hp1
  obtain ⟨hm1, hG1⟩ := hp1
  rw [Nat.zero_add] at hm1
  have hput1 : putAt xs (k * 3) news = xs.take (k * 3) ++ (news ++ xs.drop (k * 3 + news.length)) := putAt_eq _ _ _ (by rw [hl, hlen]; omega)
  have hlen1 : (putAt xs (k * 3) news).length = n * 3 := by rw [hput1, List.length_append, List.length_append, List.length_take, List.length_drop, hl, hlen]; omega
  obtain ⟨ZS, hZS⟩ : ∃ ZS, (Builtin.zeroCells (Value.cells (.agg #[.int .i64 0, .slice none 0 0, .int .i64 0])) (n - (k + (n - (k + 1))))).toList = ZS := ⟨_, rfl⟩
  have hZ := tk_zcells (n - (k + (n - (k + 1))))
  rw [hZS] at hZ
  have hcl : ∀ ty, (Builtin.clear_ #[93] ty #[.slice (some ⟨g, (k + (n - (k + 1))) * 3, none⟩) (n - (k + (n - (k + 1)))) (c - (k + (n - (k + 1))))]).run Try.prog W1 = .ok (.tuple #[]) (W1.setCells g ((k + (n - (k + 1))) * 3) ZS) :=
    fun ty => run_clear_cells_s W1 _ _ ty _ ZS Try.underlying93 tk_zero g ((k + (n - (k + 1))) * 3) _ _ (by omega) hZS hZ.2 (fun t ht => by
      rw [hZ.1] at ht
      rw [hm1.cellAt _ (by omega), List.getElem?_eq_getElem (by rw [hlen1]; omega)]; rfl) (fun t _ => hm1.frozenAt _)
  obtain ⟨W2, hW2⟩ : ∃ W2, W1.setCells g ((k + (n - (k + 1))) * 3) ZS = W2 := ⟨_, rfl⟩
  have hp2 := own_put_s ZS W1 _ ((k + (n - (k + 1))) * 3) hm1
  rw [hW2] at hp2 hcl
  have hfin : (putAt (putAt xs (k * 3) news) ((k + (n - (k + 1))) * 3) ZS).take ((n - 1) * 3) = delF 3 xs k := by
    rw [putAt_eq _ _ _ (by rw [hlen1, hZ.1]; omega), show k + (n - (k + 1)) = n - 1 by omega]
    rw [List.take_left' (by rw [List.length_take, hlen1]; omega), hput1, ← List.append_assoc]
    rw [List.take_left' (by rw [List.length_append, List.length_take, hl, hlen]; omega), ← hnews]
    unfold delF
    rw [Nat.add_mul, Nat.one_mul]
  have Fin := Lib.hid (show tk_DelR base (some ⟨g, 0, none⟩) n c xs k w (.returned (.slice (some ⟨g, 0, none⟩) (n - 1) c)) W2 from ⟨rfl, by rw [← hfin]; exact own_sub_s hp2.1 (by omega), World.grown_trans (grown_undrew hG1) hp2.2⟩)
  have hW : Hid (W1 = w.drew.setCells g (0 + k * 3) news) := hW1
  have hic : k ≤ c := by omega
  have hjc : k + 1 ≤ c := by omega
  have hkn : k + 1 ≤ n := by omega
  have hw1 : IntKind.i64.wrap ((k : Int) + 1) = (k : Int) + 1 := by rw [IntKind.wrap_i64]; omega
  have hz3 : ¬ ((k : Int) = (k : Int) + 1) := by omega
  have hb1 : (0 : Int) ≤ (k : Int) + 1 := by omega
  have htn : ((k : Int) + 1).toNat = k + 1 := by omega
  have hb3 : (k : Int) + 1 ≤ (n : Int) := by omega
  have hb4 : (k : Int) ≤ (k : Int) + 1 := by omega
  have hb6 : (k : Int) + 1 ≤ (c : Int) := by omega
  have mixed : Try.prog.follows Departure.mixedOrders = true := by kernel_rfl
  have hsz := tk_size
  clear hW1 hp2 hfin hm1 hG1 hput1 hlen1 hcell hlen hnews ho hl hW2 hg1 hg2 hx1 hZ hZS
  go_enter Try.func88, Try.ntmps88
  go_wp2_with fail
  go_region_law_o (refine step_append_room rfl (.tmp 22) (.tmp 25) 93 rfl 53 i0 3 Try.underlying93 hi0 hz1 g 0 k c (by simp [Act.eval, Act.put]) B (n - (k + 1)) (c - (k + 1)) news (by simp [Act.eval, Act.put]) s1.out hsrc.out s2.out (by omega) s3.out ?_; rw [← hW.out])
  go_wp2
  go_ret
  have e : k + (n - (k + 1)) = n - 1 := by omega
  first | exact Fin.out | (rw [e]; exact Fin.out)
end

section
open Go.RowKit

structure CCall where
  op : Nat
  pol : Nat
  key : List Nat
  num : Nat
structure CTok where
  pol : Int
  key : List Nat
  ser : Int
abbrev KRef := Option Addr × Nat
def callC (k : KRef) (c : CCall) : List Value := [.int .u8 (c.op : Int), .int .i64 (c.pol : Int), .slice k.1 c.key.length k.2, .int .i64 (c.num : Int)]
def tokC (k : KRef) (t : CTok) : List Value := [.int .i64 t.pol, .slice k.1 t.key.length k.2, .int .i64 t.ser]
def callsV (ks : List KRef) (l : List CCall) : List Value := (ks.zip l).flatMap fun p => callC p.1 p.2
def toksV (ks : List KRef) (l : List CTok) : List Value := (ks.zip l).flatMap fun p => tokC p.1 p.2
/-- rows of so many cells an element -/
theorem zipV_len {α : Type} (f : KRef → α → List Value) (s : Nat) (hf : ∀ k x, (f k x).length = s) : ∀ (ks : List KRef) (l : List α), ks.length = l.length → ((ks.zip l).flatMap fun p => f p.1 p.2).length = l.length * s
  | [], [], _ => by simp
  | [], _ :: _, h => by cases h
  | _ :: _, [], h => by cases h
  | k :: ks, x :: l, h => by
    have := zipV_len f s hf ks l (by simpa using h)
    rw [List.zip_cons_cons, List.flatMap_cons, List.length_append, this, hf, List.length_cons, Nat.add_mul, Nat.one_mul, Nat.add_comm]
theorem zipV_get {α : Type} (f : KRef → α → List Value) (s : Nat) (hf : ∀ k x, (f k x).length = s) : ∀ (ks : List KRef) (l : List α) (i j : Nat) (k : KRef) (x : α), ks[i]? = some k → l[i]? = some x → j < s → ((ks.zip l).flatMap fun p => f p.1 p.2)[i * s + j]? = (f k x)[j]?
  | [], _, _, _, _, _, h, _, _ => by simp at h
  | _ :: _, [], _, _, _, _, _, h, _ => by simp at h
  | k0 :: ks, x0 :: l, 0, j, k, x, h1, h2, hj => by
    simp at h1 h2
    subst h1 h2
    rw [List.zip_cons_cons, List.flatMap_cons, Nat.zero_mul, Nat.zero_add, List.getElem?_append_left (by rw [hf]; exact hj)]
  | k0 :: ks, x0 :: l, i + 1, j, k, x, h1, h2, hj => by
    have := zipV_get f s hf ks l i j k x (by simpa using h1) (by simpa using h2) hj
    rw [List.zip_cons_cons, List.flatMap_cons, List.getElem?_append_right (by rw [hf, Nat.add_mul, Nat.one_mul]; omega), hf, show (i + 1) * s + j - s = i * s + j by rw [Nat.add_mul, Nat.one_mul]; omega]
    exact this
theorem zipV_snoc {α : Type} (f : KRef → α → List Value) {ks : List KRef} {l : List α} (h : ks.length = l.length) (k : KRef) (x : α) : ((ks ++ [k]).zip (l ++ [x])).flatMap (fun p => f p.1 p.2) = ((ks.zip l).flatMap fun p => f p.1 p.2) ++ f k x := by
  rw [List.zip_append h, List.flatMap_append]
  simp
/-- keys that read so -/
def KeysRd {α : Type} (w : World) (key : α → List Nat) (ks : List KRef) (l : List α) : Prop := ∀ p ∈ ks.zip l, (key p.2).length ≤ p.1.2 ∧ Rd w p.1.1 (vals .u8 (key p.2))
theorem KeysRd.ext {α : Type} {w w' : World} {key : α → List Nat} {ks : List KRef} {l : List α} (h : KeysRd w key ks l) (x : Ext w w') : KeysRd w' key ks l := fun p hp => ⟨(h p hp).1, (h p hp).2.ext x⟩
theorem KeysRd.snoc {α : Type} {w : World} {key : α → List Nat} {ks : List KRef} {l : List α} (h : KeysRd w key ks l) (hl : ks.length = l.length) {k : KRef} {x : α} (h1 : (key x).length ≤ k.2) (h2 : Rd w k.1 (vals .u8 (key x))) : KeysRd w key (ks ++ [k]) (l ++ [x]) := fun p hp => by
  rw [List.zip_append hl] at hp
  rcases List.mem_append.1 hp with hp | hp
  · exact h p hp
  · simp at hp
    subst hp
    exact ⟨h1, h2⟩
/-- a list of tokens that reads so -/
def TokRd (w : World) (A : Option Addr) (l : List CTok) (ks : List KRef) : Prop := ks.length = l.length ∧ Rd w A (toksV ks l) ∧ KeysRd w (fun t => t.key) ks l
theorem TokRd.ext {w w' : World} {A : Option Addr} {l : List CTok} {ks : List KRef} (h : TokRd w A l ks) (x : Ext w w') : TokRd w' A l ks := ⟨h.1, h.2.1.ext x, h.2.2.ext x⟩
theorem TokRd.at_ {w : World} {A : Option Addr} {l : List CTok} {ks : List KRef} (h : TokRd w A l ks) {i : Nat} {t : CTok} (hi : l[i]? = some t) :
    ∃ b off K c, A = some ⟨b, off, none⟩ ∧ ks[i]? = some (K, c) ∧ w.cell? ⟨b, off + i * 3, none⟩ = some (.int .i64 t.pol) ∧ w.cell? ⟨b, off + i * 3 + 1, none⟩ = some (.slice K t.key.length c) ∧ w.cell? ⟨b, off + i * 3 + 2, none⟩ = some (.int .i64 t.ser) ∧ t.key.length ≤ c ∧ Rd w K (vals .u8 t.key) := by
  have hil := (List.getElem?_eq_some_iff.1 hi).1
  obtain ⟨k, hk⟩ : ∃ k, ks[i]? = some k := ⟨_, List.getElem?_eq_getElem (by rw [h.1]; exact hil)⟩
  have hg := fun j hj => zipV_get tokC 3 (fun _ _ => rfl) ks l i j k t hk hi hj
  obtain ⟨b, off, hA, hc⟩ := h.2.1 (fun e0 => by have := hg 0 (by omega); unfold toksV at e0; rw [e0] at this; simp [tokC] at this)
  obtain ⟨f1, f2⟩ := h.2.2 (k, t) (List.mem_of_getElem? (List.getElem?_zip_eq_some.2 ⟨hk, hi⟩))
  refine ⟨b, off, k.1, k.2, hA, hk, ?_, ?_, ?_, f1, f2⟩
  · exact hc (i * 3 + 0) _ (hg 0 (by omega))
  · rw [Nat.add_assoc]; exact hc (i * 3 + 1) _ (hg 1 (by omega))
  · rw [Nat.add_assoc]; exact hc (i * 3 + 2) _ (hg 2 (by omega))
/-- what a connection holds -/
structure CSt where
  ws : List Nat
  cl : Bool
  line : List CCall
  fin : Nat
  out : Option CCall
  wr : List Nat
  led : List CTok
  closed : Bool
  hung : Bool
def cInit : CSt := ⟨[], false, [], 0, none, [], [], false, false⟩
/-- the call that bytes are -/
noncomputable def decC (ys : List Nat) : Option CCall := by
  classical
  exact if h : ∃ c : CCall, NormC c.op c.pol c.key c.num ∧ ys = reqB c.op c.pol c.key c.num then some h.choose else none
theorem decC_some {ys : List Nat} {c : CCall} (h : decC ys = some c) : NormC c.op c.pol c.key c.num ∧ ys = reqB c.op c.pol c.key c.num := by
  unfold decC at h
  split at h
  · next h9 =>
    injection h with h
    rw [← h]
    exact h9.choose_spec
  · cases h
theorem decC_none {ys : List Nat} (h : decC ys = none) : ¬ IsReq ys := by
  unfold decC at h
  split at h
  · cases h
  · next h9 =>
    rintro ⟨op, p, xs, N, h1, h2⟩
    exact h9 ⟨⟨op, p, xs, N⟩, h1, h2⟩
theorem decC_of {c : CCall} (h : NormC c.op c.pol c.key c.num) : decC (reqB c.op c.pol c.key c.num) = some c := by
  cases hd : decC (reqB c.op c.pol c.key c.num) with
  | none => exact absurd ⟨c.op, c.pol, c.key, c.num, h, rfl⟩ (decC_none hd)
  | some d =>
    obtain ⟨d1, d2⟩ := decC_some hd
    obtain ⟨e1, e2, e3, e4, _⟩ := begins_one (zs := reqB c.op c.pol c.key c.num) (rest := []) (rest' := []) (show Begins _ c.op c.pol c.key c.num [] from ⟨h, by rw [List.append_nil], fun _ => rfl⟩) (show Begins _ d.op d.pol d.key d.num [] from ⟨d1, by rw [List.append_nil]; exact d2, fun _ => rfl⟩)
    obtain ⟨a, b, c', d'⟩ := c
    obtain ⟨a2, b2, c2, d2'⟩ := d
    dsimp only at e1 e2 e3 e4
    subst e1 e2 e3 e4
    rfl
/-- payloads, one behind the other, onto the line; did one fail? -/
noncomputable def readL : List CCall → List (List Nat) → List CCall × Bool
  | l, [] => (l, false)
  | l, ys :: t => match decC ys with
    | some c => readL (l ++ [c]) t
    | none => (l, true)

/-- blocks that are each another's none -/
def Apart (L : List (Option Nat)) : Prop := L.Pairwise fun x y => ∀ b, x = some b → y ≠ some b
/-- where a key lies -/
def KeyIn (RO : Nat → Prop) (k : KRef) : Prop := ∀ a, k.1 = some a → RO a.block
def OutAt1 (w : World) (RO : Nat → Prop) (ov : Value) : Option CCall → Prop
  | none => ov = .pointer none
  | some c => ∃ o k, ov = .pointer (some ⟨o, 0, none⟩) ∧ w.heap[o]? = some (.cells (callC k c).toArray 63 (0, 0)) ∧ c.key.length ≤ k.2 ∧ Rd w k.1 (vals .u8 c.key) ∧ RO o ∧ KeyIn RO k
/-- a connection in memory: L are the blocks that are written (its own, the reader's, the line's, the bytes', the ledger's); RO are those that are read alone; base: nothing of it is older -/
def ConnAt (w : World) (base : Nat) (L : List (Option Nat)) (RO : Nat → Prop) (gc r : Nat) (s : CSt) : Prop :=
  ∃ (S : Nat → Prop) (lv ov : Value) (lob : Option Nat) (lk tk : List KRef) (WA TA : Option Addr) (wn wc tn tc : Nat),
    L = [some gc, some r, lob, (Value.slice WA wn wc).ownBlock, (Value.slice TA tn tc).ownBlock] ∧ Apart L ∧
    w.heap[gc]? = some (.cells #[.pointer (some ⟨r, 0, none⟩), lv, .int .i64 (s.fin : Int), ov, .slice WA wn wc, .slice TA tn tc, .bool s.closed, .bool s.hung] 130 (0, 0)) ∧
    IsRdr w r s.ws s.cl S ∧ (∀ b, S b → RO b) ∧
    lk.length = s.line.length ∧ OffS w 4 lob lv s.line.length (callsV lk s.line) ∧ KeysRd w (fun c => c.key) lk s.line ∧ (∀ k ∈ lk, KeyIn RO k) ∧
    OutAt1 w RO ov s.out ∧
    s.wr.length = wn ∧ w.ownsRow base 5 1 (.slice WA wn wc) wn (vals .u8 s.wr) ∧
    tk.length = s.led.length ∧ s.led.length = tn ∧ w.ownsRow base 53 3 (.slice TA tn tc) tn (toksV tk s.led) ∧ KeysRd w (fun t => t.key) tk s.led ∧ (∀ k ∈ tk, KeyIn RO k) ∧
    (∀ b, RO b → some b ∉ L ∧ base ≤ b ∧ b < w.heap.size) ∧ ∀ b, some b ∈ L → base ≤ b ∧ b < w.heap.size
/-- what is right of it, in plain Lean -/
def CInv (s : CSt) : Prop := (∀ x ∈ s.ws, x < 256) ∧ (∀ c ∈ s.line, NormC c.op c.pol c.key c.num) ∧ (∀ c, s.out = some c → NormC c.op c.pol c.key c.num) ∧ (∀ x ∈ s.wr, x < 256) ∧ ∀ t ∈ s.led, ∀ x ∈ t.key, x < 256
theorem KeysRd.gbk {α : Type} {w w' : World} {T RO : Nat → Prop} {key : α → List Nat} {ks : List KRef} {l : List α} (h : KeysRd w key ks l) (hk : ∀ k ∈ ks, KeyIn RO k) (g : GB w w' T) (hT : ∀ b, RO b → ¬ T b) : KeysRd w' key ks l := fun p hp => ⟨(h p hp).1, g.rd (h p hp).2 (fun a ha => hT _ (hk p.1 (List.of_mem_zip hp).1 a ha))⟩
theorem OutAt1.gbk {w w' : World} {T RO : Nat → Prop} {ov : Value} {c : Option CCall} (h : OutAt1 w RO ov c) (g : GB w w' T) (hT : ∀ b, RO b → ¬ T b) : OutAt1 w' RO ov c := by
  cases c with
  | none => exact h
  | some c =>
    obtain ⟨o, k, h1, h2, h3, h4, h5, h6⟩ := h
    exact ⟨o, k, h1, g.blk h2 (hT o h5), h3, g.rd h4 (fun a ha => hT _ (h6 a ha)), h5, h6⟩
/-- somebody else wrote -/
theorem ConnAt.gb {w w' : World} {base gc r : Nat} {L : List (Option Nat)} {RO T : Nat → Prop} {s : CSt} (h : ConnAt w base L RO gc r s) (g : GB w w' T) (hT : ∀ b, T b → some b ∉ L ∧ ¬ RO b) : ConnAt w' base L RO gc r s := by
  obtain ⟨S, lv, ov, lob, lk, tk, WA, TA, wn, wc, tn, tc, h1, h2, h3, h4, h5, h6, h7, h8, h9, h10, h11, h12, h13, h14, h15, h16, h17, h18, h19⟩ := h
  have hL : ∀ b, some b ∈ L → ¬ T b := fun b hb e => (hT b e).1 hb
  have hR : ∀ b, RO b → ¬ T b := fun b hb e => (hT b e).2 hb
  refine ⟨S, lv, ov, lob, lk, tk, WA, TA, wn, wc, tn, tc, h1, h2, g.blk h3 (hL gc (by rw [h1]; simp)), ?_, h5, h6, h7.gb g (fun b e => hL b (by rw [h1, ← e]; simp)), h8.gbk h9 g hR, h9, h10.gbk g hR, h11, g.own h12 (fun b e => hL b (by rw [h1, ← e]; simp)), h13, h14, g.own h15 (fun b e => hL b (by rw [h1, ← e]; simp)), h16.gbk h17 g hR, h17, fun b hb => ⟨(h18 b hb).1, (h18 b hb).2.1, Nat.lt_of_lt_of_le (h18 b hb).2.2 g.size⟩, fun b hb => ⟨(h19 b hb).1, Nat.lt_of_lt_of_le (h19 b hb).2 g.size⟩⟩
  exact IsRdr.gb h4 g (hL r (by rw [h1]; simp)) (fun b hb => hR b (h5 b hb))
theorem ConnAt.ext {w w' : World} {base gc r : Nat} {L : List (Option Nat)} {RO : Nat → Prop} {s : CSt} (h : ConnAt w base L RO gc r s) (x : Ext w w') : ConnAt w' base L RO gc r s := h.gb (GB.of_ext (fun _ => False) x) (fun _ e => e.elim)
/-- it went on -/
def ConnGo (w : World) (base : Nat) (L : List (Option Nat)) (RO : Nat → Prop) (gc r : Nat) (s : CSt) (w' : World) : Prop :=
  ∃ L' RO', ConnAt w' base L' RO' gc r s ∧ GB w w' (fun b => some b ∈ L) ∧ (∀ b, some b ∈ L' → some b ∈ L ∨ w.heap.size ≤ b) ∧ (∀ b, RO' b → RO b ∨ some b ∈ L ∨ w.heap.size ≤ b)
theorem apart_new {gc r : Nat} (h : gc ≠ r) : Apart [some gc, some r, none, none, none] := by
  refine List.pairwise_cons.2 ⟨fun y hy b e => ?_, List.pairwise_cons.2 ⟨fun y hy b e => ?_, List.pairwise_cons.2 ⟨(fun y hy b e => by cases e), List.pairwise_cons.2 ⟨(fun y hy b e => by cases e), List.pairwise_cons.2 ⟨(fun y hy => by cases hy), List.Pairwise.nil⟩⟩⟩⟩⟩
  · injection e with e
    subst e
    simp at hy
    rcases hy with rfl | rfl
    · simpa using fun e => h e.symm
    · simp
  · simp at hy
    subst hy
    simp
set_option maxHeartbeats 1000000 in
theorem cnew_any (w : World) : Calls Try.prog 48 #[] w fun e w' => ∃ gc r L RO, e = .returned (.pointer (some ⟨gc, 0, none⟩)) ∧ ConnAt w' w.heap.size L RO gc r cInit ∧ Ext w w' := by
  go_enter Try.func48, Try.ntmps48
  go_wp2_with fail
  refine (frNew w).mono ?_
  rintro e w1 ⟨rfl, hr, x1, hs1⟩
  go_wp2_with fail
  go_ret
  have hb := blk_new w1 (.cells #[.pointer (some ⟨w.heap.size, 0, none⟩), .slice none 0 0, .int .i64 0, .pointer none, .slice none 0 0, .slice none 0 0, .bool false, .bool false] 130)
  have xa : Ext w1 (w1.alloc (.cells #[.pointer (some ⟨w.heap.size, 0, none⟩), .slice none 0 0, .int .i64 0, .pointer none, .slice none 0 0, .slice none 0 0, .bool false, .bool false] 130)) := (Ext.refl w1).alloc _
  refine ⟨w1.heap.size, w.heap.size, _, fun _ => False, rfl, ⟨fun _ => False, .slice none 0 0, .pointer none, none, [], [], none, none, 0, 0, 0, 0, rfl, apart_new (by omega), hb, IsRdr.gb hr (GB.of_ext (fun _ => False) xa) (fun e => e) (fun _ e => e.elim), fun _ e => e, rfl, offS_nil _ _, fun p hp => by simp at hp, fun k hk => by simp at hk, rfl, rfl, World.ownsRow_nil _ _ _ _, rfl, rfl, World.ownsRow_nil _ _ _ _, fun p hp => by simp at hp, fun k hk => by simp at hk, fun _ e => e.elim, fun b hb => ?_⟩, x1.trans xa⟩
  have := xa.size
  rw [World.size_alloc]
  simp [Value.ownBlock] at hb
  omega
theorem copen_any (w : World) (base gc r : Nat) (L : List (Option Nat)) (RO : Nat → Prop) (s : CSt) (h : ConnAt w base L RO gc r s) :
    Calls Try.prog 54 #[.pointer (some ⟨gc, 0, none⟩)] w fun e w' => e = .returned (.bool (!s.closed)) ∧ w = w' := by
  obtain ⟨S, lv, ov, lob, lk, tk, WA, TA, wn, wc, tn, tc, h1, h2, h3, -⟩ := h
  obtain ⟨cl, hcl⟩ : ∃ x, s.closed = x := ⟨_, rfl⟩
  rw [hcl] at h3 ⊢
  have c6 : w.cell? ⟨gc, 6, none⟩ = some (.bool cl) := blk_cell h3 6
  clear h1 h2 h3 hcl
  cases cl
  all_goals
    go_enter Try.func54, Try.ntmps54
    go_wp2_with fail
    go_ret
    exact ⟨rfl, rfl⟩
theorem cwaiting_any (w : World) (base gc r : Nat) (L : List (Option Nat)) (RO : Nat → Prop) (s : CSt) (h : ConnAt w base L RO gc r s) :
    Calls Try.prog 51 #[.pointer (some ⟨gc, 0, none⟩)] w fun e w' => e = .returned (.int .i64 (s.line.length : Int)) ∧ w = w' := by
  obtain ⟨S, lv, ov, lob, lk, tk, WA, TA, wn, wc, tn, tc, h1, h2, h3, h4, h5, h6, h7, -⟩ := h
  obtain ⟨ao, cap, hlv, -, -, -⟩ := h7.shape
  obtain ⟨n, hn⟩ : ∃ x, s.line.length = x := ⟨_, rfl⟩
  rw [hn] at hlv ⊢
  rw [hlv] at h3
  have c1 : w.cell? ⟨gc, 1, none⟩ = some (.slice ao n cap) := blk_cell h3 1
  clear h1 h2 h3 h4 h5 h6 h7 hlv hn
  go_enter Try.func51, Try.ntmps51
  go_wp2_with fail
  go_ret
  exact ⟨rfl, rfl⟩

theorem apart5 {gc r : Nat} {a b c : Option Nat} (h : Apart [some gc, some r, a, b, c]) :
    gc ≠ r ∧ (∀ q, a = some q → q ≠ gc ∧ q ≠ r) ∧ (∀ q, b = some q → q ≠ gc ∧ q ≠ r ∧ a ≠ some q) ∧ ∀ q, c = some q → q ≠ gc ∧ q ≠ r ∧ a ≠ some q ∧ b ≠ some q := by
  obtain ⟨h1, h⟩ := List.pairwise_cons.1 h
  obtain ⟨h2, h⟩ := List.pairwise_cons.1 h
  obtain ⟨h3, h⟩ := List.pairwise_cons.1 h
  obtain ⟨h4, -⟩ := List.pairwise_cons.1 h
  refine ⟨fun e => h1 (some r) (by simp) gc rfl (by rw [e]), fun q e => ⟨fun e2 => h1 a (by simp) gc rfl (by rw [e, e2]), fun e2 => h2 a (by simp) r rfl (by rw [e, e2])⟩, fun q e => ⟨fun e2 => h1 b (by simp) gc rfl (by rw [e, e2]), fun e2 => h2 b (by simp) r rfl (by rw [e, e2]), fun e2 => h3 b (by simp) q e2 e⟩, fun q e => ⟨fun e2 => h1 c (by simp) gc rfl (by rw [e, e2]), fun e2 => h2 c (by simp) r rfl (by rw [e, e2]), fun e2 => h3 c (by simp) q e2 e, fun e2 => h4 c (by simp) q e2 e⟩⟩
theorem apart5_mk {gc r : Nat} {a b c : Option Nat} (h1 : gc ≠ r) (h2 : ∀ q, a = some q → q ≠ gc ∧ q ≠ r) (h3 : ∀ q, b = some q → q ≠ gc ∧ q ≠ r ∧ a ≠ some q) (h4 : ∀ q, c = some q → q ≠ gc ∧ q ≠ r ∧ a ≠ some q ∧ b ≠ some q) : Apart [some gc, some r, a, b, c] := by
  refine List.pairwise_cons.2 ⟨fun y hy q e => ?_, List.pairwise_cons.2 ⟨fun y hy q e => ?_, List.pairwise_cons.2 ⟨fun y hy q e => ?_, List.pairwise_cons.2 ⟨fun y hy q e => ?_, List.pairwise_cons.2 ⟨(fun y hy => by cases hy), List.Pairwise.nil⟩⟩⟩⟩⟩
  · injection e with e
    subst e
    simp at hy
    rcases hy with rfl | rfl | rfl | rfl
    · simpa using fun e => h1 e.symm
    · exact fun e => (h2 _ e).1 rfl
    · exact fun e => (h3 _ e).1 rfl
    · exact fun e => (h4 _ e).1 rfl
  · injection e with e
    subst e
    simp at hy
    rcases hy with rfl | rfl | rfl
    · exact fun e => (h2 _ e).2 rfl
    · exact fun e => (h3 _ e).2.1 rfl
    · exact fun e => (h4 _ e).2.1 rfl
  · simp at hy
    rcases hy with rfl | rfl
    · exact fun e2 => (h3 _ e2).2.2 e
    · exact fun e2 => (h4 _ e2).2.2.1 e
  · simp at hy
    subst hy
    exact fun e2 => (h4 _ e2).2.2.2 e
theorem mem5 {b gc r : Nat} {x y z : Option Nat} (h : some b ∈ [some gc, some r, x, none, z]) : some b ∈ [some gc, some r, x, y, z] := by
  rcases List.mem_cons.1 h with h | h
  · rw [h]; exact List.mem_cons_self
  · refine List.mem_cons_of_mem _ ?_
    rcases List.mem_cons.1 h with h | h
    · rw [h]; exact List.mem_cons_self
    · refine List.mem_cons_of_mem _ ?_
      rcases List.mem_cons.1 h with h | h
      · rw [h]; exact List.mem_cons_self
      · refine List.mem_cons_of_mem _ (List.mem_cons_of_mem _ ?_)
        rcases List.mem_cons.1 h with h | h
        · cases h
        · exact h
set_option maxHeartbeats 1000000 in
/-- what is to be written is the caller's now -/
theorem ctake_any (w : World) (base gc r : Nat) (L : List (Option Nat)) (RO : Nat → Prop) (s : CSt) (h : ConnAt w base L RO gc r s) :
    Calls Try.prog 53 #[.pointer (some ⟨gc, 0, none⟩)] w fun e w' => ∃ WA wc L', e = .returned (.slice WA s.wr.length wc) ∧ ConnAt w' base L' RO gc r { s with wr := [] } ∧ GB w w' (· = gc) ∧ (∀ b, some b ∈ L' → some b ∈ L) ∧
      w'.ownsRow base 5 1 (.slice WA s.wr.length wc) s.wr.length (vals .u8 s.wr) ∧ ∀ b, (Value.slice WA s.wr.length wc).ownBlock = some b → some b ∉ L' ∧ ¬ RO b := by
  obtain ⟨S, lv, ov, lob, lk, tk, WA, TA, wn, wc, tn, tc, h1, h2, h3, h4, h5, h6, h7, h8, h9, h10, h11, h12, h13, h14, h15, h16, h17, h18, h19⟩ := h
  rw [h1] at h2
  obtain ⟨a1, a2, a3, a4⟩ := apart5 h2
  have c4 : w.cell? ⟨gc, 4, none⟩ = some (.slice WA wn wc) := blk_cell h3 4
  have f4 := blk_frozen h3 4
  have g : GB w (w.setCell ⟨gc, 4, none⟩ (.slice none 0 0)) (· = gc) := (GB.refl w (· = gc)).set gc 4 _ (.inl rfl)
  have hR : ∀ b, RO b → ¬ b = gc := fun b hb e => (h18 b hb).1 (by rw [h1, e]; simp)
  have Fin := Lib.hid (show ∃ L', ConnAt (w.setCell ⟨gc, 4, none⟩ (.slice none 0 0)) base L' RO gc r { s with wr := [] } ∧ (∀ b, some b ∈ L' → some b ∈ L) ∧ ∀ b, (Value.slice WA wn wc).ownBlock = some b → some b ∉ L' ∧ ¬ RO b from by
    refine ⟨[some gc, some r, lob, none, (Value.slice TA tn tc).ownBlock], ⟨S, lv, ov, lob, lk, tk, none, TA, 0, 0, tn, tc, rfl, apart5_mk a1 a2 (fun q e => by cases e) (fun q e => ⟨(a4 q e).1, (a4 q e).2.1, (a4 q e).2.2.1, fun e => by cases e⟩), blk_set h3 4 _, IsRdr.gb h4 g (fun e => a1 e.symm) (fun b hb => hR b (h5 b hb)), h5, h6, h7.gb g (fun b e => (a2 b e).1), h8.gbk h9 g hR, h9, h10.gbk g hR, rfl, World.ownsRow_nil _ _ _ _, h13, h14, g.own h15 (fun b e => (a4 b e).1), h16.gbk h17 g hR, h17, fun b hb => ⟨fun e => (h18 b hb).1 (by rw [h1]; exact mem5 e), (h18 b hb).2.1, by simpa using (h18 b hb).2.2⟩, fun b hb => ⟨(h19 b (by rw [h1]; exact mem5 hb)).1, by simpa using (h19 b (by rw [h1]; exact mem5 hb)).2⟩⟩, (fun b hb => by rw [h1]; exact mem5 hb), fun b e => ⟨fun hb => ?_, fun hb => (h18 b hb).1 (by rw [h1, ← e]; simp)⟩⟩
    obtain ⟨e1, e2, e3⟩ := a3 b e
    simp at hb
    rcases hb with hb | hb | hb | hb
    · exact e1 hb
    · exact e2 hb
    · exact e3 hb.symm
    · exact (a4 b hb.symm).2.2.2 e)
  have Own := Lib.hid (g.own h12 (fun b e => (a3 b e).1))
  rw [h11]
  clear h1 h2 h3 h4 h5 h6 h7 h8 h9 h10 h12 h13 h14 h15 h16 h17 h18 h19 a1 a2 a3 a4 hR
  go_enter Try.func53, Try.ntmps53
  go_wp2_with fail
  go_ret
  obtain ⟨L', k1, k2, k3⟩ := Fin.out
  exact ⟨WA, wc, L', rfl, k1, g, k2, Own.out, k3⟩
theorem ctake_nil (w : World) : Calls Try.prog 53 #[.pointer none] w fun e w' => e = .returned (.slice none 0 0) ∧ w = w' := by
  go_enter Try.func53, Try.ntmps53
  go_wp2_with fail
  go_ret
  exact ⟨rfl, rfl⟩
theorem copen_nil (w : World) : Calls Try.prog 54 #[.pointer none] w fun e w' => e = .returned (.bool false) ∧ w = w' := by
  go_enter Try.func54, Try.ntmps54
  go_wp2_with fail
  go_ret
  exact ⟨rfl, rfl⟩
theorem cwaiting_nil (w : World) : Calls Try.prog 51 #[.pointer none] w fun e w' => e = .returned (.int .i64 0) ∧ w = w' := by
  go_enter Try.func51, Try.ntmps51
  go_wp2_with fail
  go_ret
  exact ⟨rfl, rfl⟩
theorem cledger_nil (w : World) : Calls Try.prog 57 #[.pointer none] w fun e w' => e = .returned (.slice none 0 0) ∧ w = w' := by
  go_enter Try.func57, Try.ntmps57
  go_wp2_with fail
  go_ret
  exact ⟨rfl, rfl⟩
theorem changup_nil (w : World) : Calls Try.prog 55 #[.pointer none] w fun e w' => e = .returned (.slice none 0 0) ∧ w = w' := by
  go_enter Try.func55, Try.ntmps55
  go_wp2_with fail
  go_ret
  exact ⟨rfl, rfl⟩
theorem cfeed_nil (w : World) (A : Option Addr) (n c : Nat) : Calls Try.prog 49 #[.pointer none, .slice A n c] w fun e w' => e = .returned (.int .i64 7) ∧ w = w' := by
  go_enter Try.func49, Try.ntmps49
  go_wp2_with fail
  go_ret
  exact ⟨rfl, rfl⟩

/-- a list of tokens that a call made: its row, and each key -/
def TokNew (w : World) (base : Nat) (A : Option Addr) (n c : Nat) (l : List CTok) (ks : List KRef) : Prop :=
  ks.length = l.length ∧ l.length = n ∧ w.ownsRow base 53 3 (.slice A n c) n (toksV ks l) ∧ ∀ (i : Nat) (q : KRef) (e : CTok), ks[i]? = some q → l[i]? = some e → w.ownsRow base 5 1 (.slice q.1 e.key.length q.2) e.key.length (vals .u8 e.key) ∧ ∀ g, (Value.slice q.1 e.key.length q.2).ownBlock = some g → (Value.slice A n c).ownBlock ≠ some g
theorem TokNew.nil (w : World) (base : Nat) : TokNew w base none 0 0 [] [] := ⟨rfl, rfl, World.ownsRow_nil _ _ _ _, fun i q e h => by simp at h⟩
theorem TokNew.ext {w w' : World} {base : Nat} {A : Option Addr} {n c : Nat} {l : List CTok} {ks : List KRef} (h : TokNew w base A n c l ks) (x : Ext w w') : TokNew w' base A n c l ks :=
  ⟨h.1, h.2.1, own_ext h.2.2.1 x, fun i q e h1 h2 => ⟨own_ext (h.2.2.2 i q e h1 h2).1 x, (h.2.2.2 i q e h1 h2).2⟩⟩
theorem rd_own3 {w : World} {base s : Nat} {e : TypeId} {A : Option Addr} {n c : Nat} {vs : List Value} (h : w.ownsRow base e s (.slice A n c) n vs) : Rd w A vs := fun hne => by
  rcases h.2 with ⟨h1, h2⟩ | ⟨g, cap, cur, h1, hb, hg, _⟩
  · have h3 := h.1
    rw [h2, Nat.zero_mul] at h3
    exact absurd (List.length_eq_zero_iff.1 h3) hne
  · injection h1 with h1 _ _
    refine ⟨g, 0, h1, fun j u hu => ?_⟩
    subst h1
    have hj := (List.getElem?_eq_some_iff.1 hu).1
    rw [Nat.zero_add]
    rw [h.cellAt j (by rw [← h.1]; exact hj)]
    exact hu
theorem TokNew.rd {w : World} {base : Nat} {A : Option Addr} {n c : Nat} {l : List CTok} {ks : List KRef} (h : TokNew w base A n c l ks) : TokRd w A l ks := by
  refine ⟨h.1, rd_own3 h.2.2.1, fun p hp => ?_⟩
  obtain ⟨i, hi⟩ := List.getElem?_of_mem hp
  obtain ⟨h1, h2⟩ := List.getElem?_zip_eq_some.1 hi
  have := (h.2.2.2 i p.1 p.2 h1 h2).1
  exact ⟨own_cap this, Rd.of_own this⟩
/-- one more -/
theorem TokNew.snoc {w w4 w5 w6 : World} {base b4 k c cb m c4 : Nat} {A A4 B : Option Addr} {l : List CTok} {ks : List KRef} {x : List Nat} {p v : Int} (h : TokNew w base A k c l ks) (x4 : Ext w w4) (hm : x.length = m)
    (o4 : w4.ownsRow b4 5 1 (.slice A4 m c4) m (vals .u8 x)) (hb : w.heap.size ≤ b4) (hbw : base ≤ w.heap.size) (x5 : Ext w4 w5)
    (o6 : w6.ownsRow base 53 3 (.slice B (k + 1) cb) (k + 1) (toksV ks l ++ [.int .i64 p, .slice A4 m c4, .int .i64 v])) (g6 : w5.grownBy w6 (Value.slice A k c).ownBlock)
    (b6 : (Value.slice B (k + 1) cb).ownBlock = (Value.slice A k c).ownBlock ∨ (Value.slice B (k + 1) cb).ownBlock = some w5.heap.size) : TokNew w6 base B (k + 1) cb (l ++ [⟨p, x, v⟩]) (ks ++ [(A4, c4)]) := by
  subst hm
  obtain ⟨h1, h2, h3, h4⟩ := h
  have hne : (Value.slice A4 x.length c4).ownBlock = none ∨ (Value.slice A4 x.length c4).ownBlock ≠ (Value.slice A k c).ownBlock := by
    cases e : (Value.slice A4 x.length c4).ownBlock with
    | none => exact .inl rfl
    | some g => exact .inr fun e2 => by have := (o4.lt g e).1; have := (h3.lt g e2.symm).2; omega
  have o4' : w6.ownsRow b4 5 1 (.slice A4 x.length c4) x.length (vals .u8 x) := (own_ext o4 x5).kept g6 hne
  refine ⟨by simp [h1], by simp [h2], by unfold toksV at o6 ⊢; rw [zipV_snoc tokC h1 (A4, c4) ⟨p, x, v⟩]; exact o6, fun i q e hq he => ?_⟩
  rcases Nat.lt_or_ge i l.length with hi | hi
  · rw [List.getElem?_append_left (by rw [h1]; exact hi)] at hq
    rw [List.getElem?_append_left hi] at he
    obtain ⟨k1, k2⟩ := h4 i q e hq he
    refine ⟨(own_ext (own_ext k1 x4) x5).kept g6 ?_, fun g hg hg2 => ?_⟩
    · cases e9 : (Value.slice q.1 e.key.length q.2).ownBlock with
      | none => exact .inl rfl
      | some g => exact .inr fun e2 => k2 g e9 e2.symm
    · rcases b6 with b6 | b6
      · exact k2 g hg (b6 ▸ hg2)
      · rw [b6] at hg2
        injection hg2 with hg2
        have := (k1.lt g hg).2
        have := x4.size; have := x5.size
        omega
  · rw [List.getElem?_append_right (by rw [h1]; exact hi)] at hq
    rw [List.getElem?_append_right hi] at he
    have hz : i - ks.length = 0 := by
      have := (List.getElem?_eq_some_iff.1 hq).1
      simp at this
      omega
    rw [hz] at hq
    rw [← h1, hz] at he
    simp at hq he
    subst hq he
    refine ⟨own_base o4' (Nat.le_trans hbw hb), fun g hg hg2 => ?_⟩
    rcases b6 with b6 | b6
    · rw [b6] at hg2
      have := (h3.lt g hg2).2; have := (o4.lt g hg).1
      omega
    · rw [b6] at hg2
      injection hg2 with hg2
      have := (o4.lt g hg).2
      have := x5.size
      omega
theorem step_app_tok {ops : Array Oper} {o : Oper} {a : Act} {K : Act → World → Prop} {Q : Exit → Act → World → Prop} {E : Prop} (w : World) (hgd : o.guard = none) (s x : Operand)
    (ho : o.op = .call { callee := .builtin .append, args := #[s, x], argTypes := #[93, 93] })
    (base : Nat) {B : Option Addr} {n cb : Nat} {xs : List Value} (hs : a.eval s = .slice B n cb) (hown : w.ownsRow base 53 3 (.slice B n cb) n xs)
    {A : Option Addr} {c : Nat} {y z u : Value} (hx : a.eval x = .slice A 1 c) (hr : Rd w A [y, z, u]) (hy : y.oneCell' = true) (hz : z.oneCell' = true) (hu : u.oneCell' = true) (hb : n ≤ 100000) (hbase : base ≤ w.heap.size)
    (h : ∀ B' cb' w', w'.ownsRow base 53 3 (.slice B' (n + 1) cb') (n + 1) (xs ++ [y, z, u]) → w.grownBy w' (Value.slice B n cb).ownBlock →
      ((Value.slice B' (n + 1) cb').ownBlock = (Value.slice B n cb).ownBlock ∨ (Value.slice B' (n + 1) cb').ownBlock = some w.heap.size) → K (a.put o.dst (.slice B' (n + 1) cb')) w') :
    if Region.wanted o (yielded ops a.tmps) = true then Oper.wp Try.prog o a w K Q else E := by
  have hw : Region.wanted o (yielded ops a.tmps) = true := by simp [Region.wanted, hgd]
  rw [if_pos hw]
  obtain ⟨i0, hi, hz0, hz1, hz2⟩ := info_parts tk_info
  exact wp_append_rd w s x 93 ho base 53 Try.underlying93 hi hz0 hz1 hz2 rfl (by decide) hs hown hx (m := 1) (news := [y, z, u]) rfl hr (by intro v hv; simp at hv; rcases hv with rfl | rfl | rfl <;> assumption) (by unfold maxLen; omega) (by omega) hbase h
/-- Ledger's answer -/
def LedR (l : List CTok) (w : World) (e : Ending) (w' : World) : Prop := ∃ A c ks, e = .returned (.slice A l.length c) ∧ TokNew w' w.heap.size A l.length c l ks ∧ Ext w w'
set_option maxHeartbeats 4000000 in
set_option maxRecDepth 100000 in
theorem cledger_any (w : World) (base gc r : Nat) (L : List (Option Nat)) (RO : Nat → Prop) (s : CSt) (h : ConnAt w base L RO gc r s) (hn : s.led.length ≤ 100000) (hkl : ∀ t ∈ s.led, t.key.length ≤ 5000) :
    Calls Try.prog 57 #[.pointer (some ⟨gc, 0, none⟩)] w (LedR s.led w) := by
  obtain ⟨S, lv, ov, lob, lk, tk, WA, A, wn, wc, n, c, -, -, h3, -, -, -, -, -, -, -, -, -, h13, h14, h15, h16, -⟩ := h
  have c5 : w.cell? ⟨gc, 5, none⟩ = some (.slice A n c) := blk_cell h3 5
  have HE := Lib.hid (show TokRd w A s.led tk from ⟨h13, rd_own3 h15, h16⟩)
  obtain ⟨l, Hl⟩ : ∃ l, Hid (s.led = l) := ⟨_, rfl⟩
  rw [Hl.out] at hn hkl h14 HE ⊢
  have Hn := Lib.hid h14; have HK := Lib.hid hkl
  have hn' : n ≤ 100000 := by omega
  clear h3 h13 h14 h15 h16 hkl hn
  go_enter Try.func57, Try.ntmps57
  go_wp2_with fail
  go_loopw [3, 13] (fun v i wr => ∃ (k : Nat) (B : Option Addr) (cb : Nat) (kk : List KRef), k ≤ n ∧ i = .int .i64 (k : Int) ∧ v = .slice B k cb ∧ TokNew wr w.heap.size B k cb (l.take k) kk ∧ Ext w wr) (fun _ i _ => n - (intOf i).toNat)
  case atStart => exact ⟨0, none, 0, [], Nat.zero_le _, rfl, rfl, TokNew.nil _ _, Ext.refl w⟩
  case round =>
    obtain ⟨k, B, cb, kk, hk, rfl, rfl, hN, hx⟩ := hrel
    by_cases hlt : k < n
    · obtain ⟨e, he⟩ : ∃ e, l[k]? = some e := ⟨_, List.getElem?_eq_getElem (by rw [Hn.out]; exact hlt)⟩
      obtain ⟨b, off, K, kc, hA, hks, d0, d1, d2, hkc, hkr⟩ := (HE.out.ext hx).at_ he
      have hok := HK.out e (List.mem_of_getElem? he)
      obtain ⟨p, x, v⟩ := e
      dsimp only at d0 d1 d2 hkc hkr hok
      subst hA
      obtain ⟨m, Hm⟩ : ∃ m, Hid (x.length = m) := ⟨_, rfl⟩
      rw [Hm.out] at d1 hkc
      have hm : m ≤ 5000 := by rw [← Hm.out]; exact hok
      have HT := Lib.hid (take_succ_of he)
      have HN := Lib.hid hN; have HX := Lib.hid hx
      have hsz : w.heap.size ≤ wr.heap.size := hx.size
      obtain ⟨W, hW⟩ : ∃ W, wr.alloc (.cells #[.int .i64 p, .slice K m kc, .int .i64 v] 53) = W := ⟨_, rfl⟩
      have xW : Ext wr W := by rw [← hW]; exact (Ext.refl wr).alloc _
      have KB := Lib.hid (show W.heap[wr.heap.size]? = some (.cells #[.int .i64 p, .slice K m kc, .int .i64 v] 53 (0, 0)) by rw [← hW]; exact blk_new wr _)
      have CL := Lib.hid (fun u (y : Ext W u) => clone_any K m kc x u Hm.out (by omega) (hkr.ext (xW.trans y)))
      have XW := Lib.hid xW
      have NW := Lib.hid (hN.ext xW)
      have hWs : wr.heap.size ≤ W.heap.size := xW.size
      clear he hok hkr hN hx xW hks
      go_upto_region 7 with fail
      (try rw [hW])
      clear hW d0 d1 d2
      have e0 : W.cell? ⟨wr.heap.size, 0, none⟩ = some (.int .i64 p) := blk_cell KB.out 0
      have e1 : W.cell? ⟨wr.heap.size, 1, none⟩ = some (.slice K m kc) := blk_cell KB.out 1
      have e2 : W.cell? ⟨wr.heap.size, 2, none⟩ = some (.int .i64 v) := blk_cell KB.out 2
      go_region_held3 (fun u => u.cell? ⟨wr.heap.size, 0, none⟩ = some (.int .i64 p) ∧ u.cell? ⟨wr.heap.size, 1, none⟩ = some (.slice K m kc) ∧ u.cell? ⟨wr.heap.size, 2, none⟩ = some (.int .i64 v))
        (((try dsimp only); refine ⟨?_, ?_, ?_⟩ <;> first | (with_reducible assumption) | (with_reducible exact drew_cell e0) | (with_reducible exact drew_cell e1) | (with_reducible exact drew_cell e2) | (with_reducible exact ext_cell ((Ext.refl _).alloc _) y0) | (with_reducible exact ext_cell ((Ext.refl _).alloc _) y1) | (with_reducible exact ext_cell ((Ext.refl _).alloc _) y2) | (with_reducible exact g6.cell (ext_cell ((Ext.refl _).alloc _) y0) NE.symm) | (with_reducible exact g6.cell (ext_cell ((Ext.refl _).alloc _) y1) NE.symm) | (with_reducible exact g6.cell (ext_cell ((Ext.refl _).alloc _) y2) NE.symm)))
        (first
          | (go_at_call 61; (with_reducible refine (CL.out _ (by first | exact Ext.refl W | exact (Ext.refl W).drew)).mono ?_); rintro e w4 ⟨A4, c4, rfl, ho4, x4⟩; rw [Hm.out] at ho4 ⊢; have HO4 := Lib.hid ho4; have X4 := Lib.hid x4; have y0 := ext_cell x4 (drew_cell e0); have y1 := ext_cell x4 (drew_cell e1); have y2 := ext_cell x4 (drew_cell e2); clear ho4 x4)
          | (refine step_app_tok (w4.alloc (.cells #[.int .i64 p, .slice A4 m c4, .int .i64 v] 53)) rfl (.tmp 17) (.tmp 26) rfl w.heap.size (by rfl) (own_ext NW.out.2.2.1 (((Ext.refl W).drew.trans X4.out).alloc _)) (by rfl) (show Rd _ _ _ from rd_newk w4 [.int .i64 p, .slice A4 m c4, .int .i64 v] _ rfl) rfl rfl rfl (by omega) (Nat.le_trans (Nat.le_trans hsz hWs) (((Ext.refl W).drew.trans X4.out).alloc _).size) ?_; intro B' cb' w6 o6 g6 b6; have NE : (Value.slice B k cb).ownBlock ≠ some wr.heap.size := fun e => Nat.lt_irrefl _ (Nat.lt_of_lt_of_le (HN.out.2.2.1.lt _ e).2 (Nat.le_refl _))))
      all_goals
        have x6 : Ext w w6 := ((((HX.out.trans XW.out).drew.trans X4.out).alloc _).grown g6 (fun q e => (HN.out.2.2.1.lt q e).1))
        go_wp2_with fail
        go_roundw
        case rel => exact ⟨k + 1, B', cb', kk ++ [(A4, c4)], hlt, by go_num, rfl, by rw [HT.out]; exact NW.out.snoc (w4 := w4) ((Ext.refl W).drew.trans X4.out) Hm.out HO4.out (Nat.le_refl _) (Nat.le_trans hsz hWs) ((Ext.refl w4).alloc _) o6 g6 b6, x6⟩
        case measure => simp [intOf]; omega
    · obtain rfl : k = n := by omega
      go_wp2_with fail
      go_ret
      rw [List.take_of_length_le (by rw [Hn.out]; exact Nat.le_refl _)] at hN
      exact ⟨B, cb, kk, by rw [Hn.out]; rfl, by rw [Hn.out]; exact hN, hx⟩

theorem mem5' {b gc r : Nat} {x y y' z : Option Nat} (h : some b ∈ [some gc, some r, x, y', z]) : some b ∈ [some gc, some r, x, y, z] ∨ y' = some b := by
  by_cases e : y' = some b
  · exact .inr e
  · refine .inl (mem5 (y := y) ?_)
    rcases List.mem_cons.1 h with h | h
    · rw [h]; exact List.mem_cons_self
    · refine List.mem_cons_of_mem _ ?_
      rcases List.mem_cons.1 h with h | h
      · rw [h]; exact List.mem_cons_self
      · refine List.mem_cons_of_mem _ ?_
        rcases List.mem_cons.1 h with h | h
        · rw [h]; exact List.mem_cons_self
        · refine List.mem_cons_of_mem _ ?_
          rcases List.mem_cons.1 h with h | h
          · exact absurd h.symm e
          · exact List.mem_cons_of_mem _ h
theorem own_put_gc {w : World} {base gc i : Nat} {A : Option Addr} {n c : Nat} {xs : List Value} {v : Value} (h : w.ownsRow base 5 1 (.slice A n c) n xs) (hn : (Value.slice A n c).ownBlock ≠ some gc) : (w.setCell ⟨gc, i, none⟩ v).ownsRow base 5 1 (.slice A n c) n xs := ((GB.refl w (· = gc)).set gc i v (.inl rfl)).own h (fun b e e2 => hn (by rw [e, e2]))
/-- what is to be written, and what it may become -/
theorem ConnAt.write {w : World} {base gc r : Nat} {L : List (Option Nat)} {RO : Nat → Prop} {s : CSt} (h : ConnAt w base L RO gc r s) :
    ∃ (WA : Option Addr) (wc : Nat), w.cell? ⟨gc, 4, none⟩ = some (.slice WA s.wr.length wc) ∧ w.cell? ⟨gc, 7, none⟩ = some (.bool s.hung) ∧ w.frozen? ⟨gc, 4, none⟩ = false ∧ (Value.slice WA s.wr.length wc).ownBlock ≠ some gc ∧ w.ownsRow base 5 1 (.slice WA s.wr.length wc) s.wr.length (vals .u8 s.wr) ∧ base ≤ w.heap.size ∧
      ∀ (B : Option Addr) (n' cb : Nat) (w3 : World) (ys : List Nat), (s.wr ++ ys).length = n' → w3.ownsRow base 5 1 (.slice B n' cb) n' (vals .u8 (s.wr ++ ys)) → GB w w3 (fun b => (Value.slice WA s.wr.length wc).ownBlock = some b) → (∀ b, (Value.slice B n' cb).ownBlock = some b → (Value.slice WA s.wr.length wc).ownBlock = some b ∨ w.heap.size ≤ b) →
        ConnGo w base L RO gc r { s with wr := s.wr ++ ys } (w3.setCell ⟨gc, 4, none⟩ (.slice B n' cb)) := by
  obtain ⟨S, lv, ov, lob, lk, tk, WA, TA, wn, wc, tn, tc, h1, h2, h3, h4, h5, h6, h7, h8, h9, h10, h11, h12, h13, h14, h15, h16, h17, h18, h19⟩ := h
  subst h11
  rw [h1] at h2
  obtain ⟨a1, a2, a3, a4⟩ := apart5 h2
  have hgcl := (h19 gc (by rw [h1]; simp))
  refine ⟨WA, wc, blk_cell h3 4, blk_cell h3 7, blk_frozen h3 4, fun e => (a3 gc e).1 rfl, h12, Nat.le_trans hgcl.1 (Nat.le_of_lt hgcl.2), fun B n' cb w3 ys hl ho g hb => ?_⟩
  have g2 : GB w (w3.setCell ⟨gc, 4, none⟩ (.slice B n' cb)) (fun b => b = gc ∨ (Value.slice WA s.wr.length wc).ownBlock = some b) := (g.more (fun b _ e => .inr e)).trans ((GB.refl w3 (· = gc)).set gc 4 _ (.inl rfl)) (fun b e => .inl (.inl e))
  have hwL : ∀ b, (Value.slice WA s.wr.length wc).ownBlock = some b → some b ∈ L := fun b e => by rw [h1, ← e]; simp
  have hR : ∀ b, RO b → ¬ (b = gc ∨ (Value.slice WA s.wr.length wc).ownBlock = some b) := fun b hb e => (h18 b hb).1 (e.elim (fun e => by rw [h1, e]; simp) (hwL b))
  have hsz := g.size
  have hnew : ∀ q, (Value.slice B n' cb).ownBlock = some q → q ≠ gc ∧ q ≠ r ∧ lob ≠ some q := fun q e => (hb q e).elim (fun e => a3 q e) (fun e => ⟨fun e2 => by omega, fun e2 => by have := (h19 r (by rw [h1]; simp)).2; omega, fun e2 => by have := (h19 q (by rw [h1, ← e2]; simp)).2; omega⟩)
  have hnewT : ∀ q, (Value.slice TA tn tc).ownBlock = some q → (Value.slice B n' cb).ownBlock ≠ some q := fun q e e2 => (hb q e2).elim (fun e3 => (a4 q e).2.2.2 e3) (fun e3 => by have := (h19 q (by rw [h1, ← e]; simp)).2; omega)
  refine ⟨[some gc, some r, lob, (Value.slice B n' cb).ownBlock, (Value.slice TA tn tc).ownBlock], RO, ⟨S, lv, ov, lob, lk, tk, B, TA, n', cb, tn, tc, rfl, apart5_mk a1 a2 hnew (fun q e => ⟨(a4 q e).1, (a4 q e).2.1, (a4 q e).2.2.1, hnewT q e⟩), blk_set (g.blk h3 (fun e => (a3 gc e).1 rfl)) 4 _, IsRdr.gb h4 g2 (fun e => e.elim (fun e => a1 e.symm) (fun e => (a3 r e).2.1 rfl)) (fun b hb => hR b (h5 b hb)), h5, h6, h7.gb g2 (fun b e e2 => e2.elim (fun e2 => (a2 b e).1 e2) (fun e2 => (a3 b e2).2.2 e)), h8.gbk h9 g2 hR, h9, h10.gbk g2 hR, hl, (own_put_gc ho (fun e => (hnew gc e).1 rfl)), h13, h14, g2.own h15 (fun b e e2 => e2.elim (fun e2 => (a4 b e).1 e2) (fun e2 => (a4 b e).2.2.2 e2)), h16.gbk h17 g2 hR, h17, fun b hbR => ⟨fun e => ?_, (h18 b hbR).2.1, Nat.lt_of_lt_of_le (h18 b hbR).2.2 g2.size⟩, fun b hbL => ?_⟩, g2.more (fun b _ e => e.elim (fun e => by rw [h1, e]; simp) (hwL b)), fun b hbL => ?_, fun b e => .inl e⟩
  · rcases mem5' (y := (Value.slice WA s.wr.length wc).ownBlock) e with e | e
    · exact (h18 b hbR).1 (by rw [h1]; exact e)
    · rcases hb b e with e | e
      · exact (h18 b hbR).1 (hwL b e)
      · have := (h18 b hbR).2.2; omega
  · rcases mem5' (y := (Value.slice WA s.wr.length wc).ownBlock) hbL with e | e
    · have := h19 b (by rw [h1]; exact e)
      exact ⟨this.1, Nat.lt_of_lt_of_le this.2 g2.size⟩
    · have := ho.lt b e
      exact ⟨this.1, by simpa using this.2⟩
  · rcases mem5' (y := (Value.slice WA s.wr.length wc).ownBlock) hbL with e | e
    · exact .inl (by rw [h1]; exact e)
    · exact (hb b e).imp (hwL b) id
theorem frz_ext2 {w w' : World} {p : Addr} {v : Value} (x : Ext w w') (h : w.cell? p = some v) (hf : w.frozen? p = false) : w'.frozen? p = false := (x.frozen (World.block_lt_of_cell? w p h)).trans hf
theorem frz_grown {w w' : World} {gc i : Nat} {v : Value} {row : Option Nat} (g : w.grownBy w' row) (h : w.cell? ⟨gc, i, none⟩ = some v) (hf : w.frozen? ⟨gc, i, none⟩ = false) (hn : row ≠ some gc) : w'.frozen? ⟨gc, i, none⟩ = false := by
  have hb := g.block gc (World.block_lt_of_cell? w _ h) (fun e => hn e.symm)
  unfold World.frozen? at hf ⊢
  simp only [hb]
  exact hf
def wrote (s : CSt) (q : Int) (B : List Nat) : CSt := if q = 0 ∧ s.hung = false then { s with wr := s.wr ++ (len4 B.length ++ B) } else s
/-- a reply is laid behind what is to be written -/
def PutR (w : World) (base : Nat) (L : List (Option Nat)) (RO : Nat → Prop) (gc r : Nat) (s : CSt) (e : Int) (g : Bool) (N : List Int) (x : Ending) (w' : World) : Prop :=
  ∃ q B, RepIs e g N q B ∧ x = .returned (.int .i64 q) ∧ ConnGo w base L RO gc r (wrote s q B) w'
theorem ConnGo.refl {w w' : World} {base gc r : Nat} {L : List (Option Nat)} {RO : Nat → Prop} {s : CSt} (h : ConnAt w base L RO gc r s) (x : Ext w w') : ConnGo w base L RO gc r s w' := ⟨L, RO, h.ext x, GB.of_ext _ x, fun _ e => .inl e, fun _ e => .inl e⟩
theorem ConnGo.back {w0 w w' : World} {base gc r : Nat} {L : List (Option Nat)} {RO : Nat → Prop} {s : CSt} (x : Ext w0 w) (h : ConnGo w base L RO gc r s w') : ConnGo w0 base L RO gc r s w' := by
  obtain ⟨L', RO', h1, h2, h3, h4⟩ := h
  exact ⟨L', RO', h1, GB.back x h2, fun b e => (h3 b e).imp id (Nat.le_trans x.size), fun b e => (h4 b e).imp id (fun e => e.imp id (Nat.le_trans x.size))⟩
set_option maxHeartbeats 4000000 in
set_option maxRecDepth 100000 in
theorem cput_any (w : World) (base gc r : Nat) (L : List (Option Nat)) (RO : Nat → Prop) (s : CSt) (h : ConnAt w base L RO gc r s) (hwr : s.wr.length ≤ 1000000) (e : Nat) (he : e ≤ 16) (g : Bool) (l t sn nw : Int) :
    Calls Try.prog 84 #[.pointer (some ⟨gc, 0, none⟩), .agg #[.int .i64 (e : Int), .bool g, .int .i64 l, .int .i64 t, .int .i64 sn, .int .i64 nw]] w (PutR w base L RO gc r s (e : Int) g [l, t, sn, nw]) := by
  have RP := Lib.hid (fun u => show Calls Try.prog 42 #[.agg #[.int .i64 (e : Int), .bool g, .int .i64 l, .int .i64 t, .int .i64 sn, .int .i64 nw]] u (RetRep (e : Int) g [l, t, sn, nw] u) from by
    cases g
    · exact reply_false u e l t sn nw he
    · exact reply_true u e l t sn nw he)
  obtain ⟨W, hW⟩ : ∃ W, w.alloc (.cells #[.int .i64 (e : Int), .bool g, .int .i64 l, .int .i64 t, .int .i64 sn, .int .i64 nw] 74) = W := ⟨_, rfl⟩
  have xW : Ext w W := by rw [← hW]; exact (Ext.refl w).alloc _
  have KP := Lib.hid (show W.heap[w.heap.size]? = some (.cells #[.int .i64 (e : Int), .bool g, .int .i64 l, .int .i64 t, .int .i64 sn, .int .i64 nw] 74 (0, 0)) by rw [← hW]; exact blk_new w _)
  have H := Lib.hid h; have XW := Lib.hid xW
  clear h xW
  go_enter Try.func84, Try.ntmps84
  go_upto_region 1 with fail
  (try rw [hW])
  clear hW
  have p0 : W.cell? ⟨w.heap.size, 0, none⟩ = some (.int .i64 (e : Int)) := blk_cell KP.out 0
  have p1 : W.cell? ⟨w.heap.size, 1, none⟩ = some (.bool g) := blk_cell KP.out 1
  have p2 : W.cell? ⟨w.heap.size, 2, none⟩ = some (.int .i64 l) := blk_cell KP.out 2
  have p3 : W.cell? ⟨w.heap.size, 3, none⟩ = some (.int .i64 t) := blk_cell KP.out 3
  have p4 : W.cell? ⟨w.heap.size, 4, none⟩ = some (.int .i64 sn) := blk_cell KP.out 4
  have p5 : W.cell? ⟨w.heap.size, 5, none⟩ = some (.int .i64 nw) := blk_cell KP.out 5
  go_wp2_with fail
  refine (RP.out W).mono ?_
  rintro x w1 ⟨q, B, hri, A1, c1, rfl, o1, x1⟩
  clear p0 p1 p2 p3 p4 p5
  have X1 := Lib.hid (XW.out.trans x1)
  have HRI := Lib.hid hri
  rcases hri with ⟨rfl, rfl, -⟩ | ⟨rfl, -, -, ns, ⟨hns, -⟩, hB⟩
  · clear x1 o1
    go_wp2_with fail
    go_ret
    exact ⟨1, [], HRI.out, rfl, by unfold wrote; rw [if_neg (by omega)]; exact ConnGo.refl H.out X1.out⟩
  · obtain ⟨m, Hm⟩ : ∃ m, Hid (B.length = m) := ⟨_, rfl⟩
    have hm34 : 1 ≤ m ∧ m ≤ 60 := by rw [← Hm.out, hB, repB_len, hns]; omega
    have O1 := Lib.hid o1
    rw [Hm.out] at O1 ⊢
    obtain ⟨WA, wc, c4, c7, f4, hnb, ow, hbw, step⟩ := (H.out.ext X1.out).write
    have STEP := Lib.hid step
    obtain ⟨wn, Hwn⟩ : ∃ wn, Hid (s.wr.length = wn) := ⟨_, rfl⟩
    rw [Hwn.out] at c4 hnb ow STEP hwr
    have OW := Lib.hid ow
    obtain ⟨hg, Hhg⟩ : ∃ b, Hid (s.hung = b) := ⟨_, rfl⟩
    rw [Hhg.out] at c7
    clear x1 o1 ow step hB hns
    cases hg with
    | true =>
      go_wp2_with fail
      go_ret
      exact ⟨0, B, HRI.out, rfl, by unfold wrote; rw [if_neg (by rw [Hhg.out]; simp)]; exact ConnGo.refl H.out X1.out⟩
    | false =>
      have EN := Lib.hid (frEncode_ok w1 A1 m c1 B (by omega) (by omega) Hm.out (Rd.of_own O1.out))
      unfold RetBE at EN
      obtain ⟨fr, Hfr⟩ : ∃ fr, Hid (len4 m ++ B = fr) := ⟨_, rfl⟩
      rw [Hfr.out] at EN
      obtain ⟨fn, Hfn⟩ : ∃ fn, Hid (fr.length = fn) := ⟨_, rfl⟩
      have hfn : fn ≤ 100 := by rw [← Hfn.out, ← Hfr.out, List.length_append, Hm.out]; simp [len4]; omega
      rw [Hfn.out] at EN
      go_wp2_with fail
      refine EN.out.mono ?_
      rintro x w2 ⟨A2, c2, rfl, o2, x2⟩
      have O2 := Lib.hid o2; have X2 := Lib.hid x2
      have d4 := ext_cell x2 c4
      have g4 := frz_ext2 x2 c4 f4
      have hb2 : base ≤ w2.heap.size := Nat.le_trans hbw x2.size
      clear o2 x2 c4 f4 c7
      go_wp2_with (at_builtin; refine app_u8 w2 rfl (.tmp 31) (.tmp 32) rfl base rfl (own_ext OW.out X2.out) rfl Hfn.out (Rd.of_own O2.out) (by omega) hb2 ?_; intro B3 cb3 w3 o3 g3 b3; have e4 : w3.cell? ⟨gc, 4, none⟩ = some (.slice WA wn wc) := g3.cell d4 hnb.symm; have h4 : w3.frozen? ⟨gc, 4, none⟩ = false := frz_grown g3 d4 g4 hnb; have O3 := Lib.hid o3; have G3 := Lib.hid g3; have B3h := Lib.hid b3; clear o3 g3 b3)
      go_ret
      refine ⟨0, B, HRI.out, rfl, ?_⟩
      unfold wrote
      rw [if_pos ⟨rfl, Hhg.out⟩, Hm.out, Hfr.out]
      exact ConnGo.back X1.out (STEP.out B3 (wn + fn) cb3 w3 fr (by rw [List.length_append, Hwn.out, Hfn.out]) O3.out (((GB.refl w1 _).ext X2.out).grown G3.out (fun q e => .inl e)) (fun b e => by
        rcases B3h.out with h9 | h9
        · exact .inl (h9 ▸ e)
        · rw [h9] at e
          injection e with e
          exact .inr (by rw [← e]; exact X2.out.size)))

theorem mem5x {b gc r : Nat} {x y z : Option Nat} (h : some b ∈ [some gc, some r, none, y, z]) : some b ∈ [some gc, some r, x, y, z] := by
  rcases List.mem_cons.1 h with h | h
  · rw [h]; exact List.mem_cons_self
  · refine List.mem_cons_of_mem _ ?_
    rcases List.mem_cons.1 h with h | h
    · rw [h]; exact List.mem_cons_self
    · refine List.mem_cons_of_mem _ (List.mem_cons_of_mem _ ?_)
      rcases List.mem_cons.1 h with h | h
      · cases h
      · exact h
def hangS (s : CSt) : CSt := { s with closed := true, hung := true, line := [] }
/-- closed, hung, nothing waits -/
theorem ConnAt.hang {w : World} {base gc r : Nat} {L : List (Option Nat)} {RO : Nat → Prop} {s : CSt} (h : ConnAt w base L RO gc r s) :
    (∃ v, w.cell? ⟨gc, 6, none⟩ = some v) ∧ (∃ v, w.cell? ⟨gc, 7, none⟩ = some v) ∧ (∃ v, w.cell? ⟨gc, 1, none⟩ = some v) ∧ (∀ i, w.frozen? ⟨gc, i, none⟩ = false) ∧
      ∃ L', ConnAt (((w.setCell ⟨gc, 6, none⟩ (.bool true)).setCell ⟨gc, 7, none⟩ (.bool true)).setCell ⟨gc, 1, none⟩ (.slice none 0 0)) base L' RO gc r (hangS s) ∧ ∀ b, some b ∈ L' → some b ∈ L := by
  obtain ⟨S, lv, ov, lob, lk, tk, WA, TA, wn, wc, tn, tc, h1, h2, h3, h4, h5, h6, h7, h8, h9, h10, h11, h12, h13, h14, h15, h16, h17, h18, h19⟩ := h
  rw [h1] at h2
  obtain ⟨a1, a2, a3, a4⟩ := apart5 h2
  have g : GB w (((w.setCell ⟨gc, 6, none⟩ (.bool true)).setCell ⟨gc, 7, none⟩ (.bool true)).setCell ⟨gc, 1, none⟩ (.slice none 0 0)) (· = gc) := (((GB.refl w (· = gc)).set gc 6 _ (.inl rfl)).set gc 7 _ (.inl rfl)).set gc 1 _ (.inl rfl)
  have hR : ∀ b, RO b → ¬ b = gc := fun b hb e => (h18 b hb).1 (by rw [h1, e]; simp)
  refine ⟨⟨_, blk_cell h3 6⟩, ⟨_, blk_cell h3 7⟩, ⟨_, blk_cell h3 1⟩, fun i => blk_frozen h3 i, [some gc, some r, none, (Value.slice WA wn wc).ownBlock, (Value.slice TA tn tc).ownBlock], ⟨S, .slice none 0 0, ov, none, [], tk, WA, TA, wn, wc, tn, tc, rfl, apart5_mk a1 (fun q e => by cases e) (fun q e => ⟨(a3 q e).1, (a3 q e).2.1, fun e => by cases e⟩) (fun q e => ⟨(a4 q e).1, (a4 q e).2.1, (fun e => by cases e), (a4 q e).2.2.2⟩), blk_set (blk_set (blk_set h3 6 _) 7 _) 1 _, IsRdr.gb h4 g (fun e => a1 e.symm) (fun b hb => hR b (h5 b hb)), h5, rfl, offS_nil _ _, (fun p hp => by simp at hp), (fun k hk => by simp at hk), h10.gbk g hR, h11, g.own h12 (fun b e => (a3 b e).1), h13, h14, g.own h15 (fun b e => (a4 b e).1), h16.gbk h17 g hR, h17, fun b hb => ⟨fun e => (h18 b hb).1 (by rw [h1]; exact mem5x e), (h18 b hb).2.1, by simpa using (h18 b hb).2.2⟩, fun b hb => ⟨(h19 b (by rw [h1]; exact mem5x hb)).1, by simpa using (h19 b (by rw [h1]; exact mem5x hb)).2⟩⟩, fun b hb => by rw [h1]; exact mem5x hb⟩
set_option maxHeartbeats 1000000 in
set_option maxRecDepth 100000 in
theorem changup_any (w : World) (base gc r : Nat) (L : List (Option Nat)) (RO : Nat → Prop) (s : CSt) (h : ConnAt w base L RO gc r s) (hn : s.led.length ≤ 100000) (hkl : ∀ t ∈ s.led, t.key.length ≤ 5000) :
    Calls Try.prog 55 #[.pointer (some ⟨gc, 0, none⟩)] w fun e w' => ∃ A c ks L', e = .returned (.slice A s.led.length c) ∧ ConnAt w' base L' RO gc r (hangS s) ∧ TokNew w' w.heap.size A s.led.length c s.led ks ∧ GB w w' (· = gc) ∧ ∀ b, some b ∈ L' → some b ∈ L := by
  obtain ⟨⟨v6, c6⟩, ⟨v7, c7⟩, ⟨v1, c1⟩, fz, L', hh, hL⟩ := h.hang
  have f6 := fz 6; have f7 := fz 7; have f1 := fz 1
  have LD := Lib.hid (cledger_any _ base gc r L' RO (hangS s) hh hn hkl)
  have g : GB w (((w.setCell ⟨gc, 6, none⟩ (.bool true)).setCell ⟨gc, 7, none⟩ (.bool true)).setCell ⟨gc, 1, none⟩ (.slice none 0 0)) (· = gc) := (((GB.refl w (· = gc)).set gc 6 _ (.inl rfl)).set gc 7 _ (.inl rfl)).set gc 1 _ (.inl rfl)
  have hsz : (((w.setCell ⟨gc, 6, none⟩ (.bool true)).setCell ⟨gc, 7, none⟩ (.bool true)).setCell ⟨gc, 1, none⟩ (.slice none 0 0)).heap.size = w.heap.size := by simp
  obtain ⟨X, hX⟩ : ∃ X, (((w.setCell ⟨gc, 6, none⟩ (.bool true)).setCell ⟨gc, 7, none⟩ (.bool true)).setCell ⟨gc, 1, none⟩ (.slice none 0 0)) = X := ⟨_, rfl⟩
  rw [hX] at LD g hsz hh
  have HH := Lib.hid hh; have HL := Lib.hid hL; have HX := Lib.hid hX; have HSZ := Lib.hid hsz; have HG := Lib.hid g
  clear h hh hL hX fz hsz g
  go_enter Try.func55, Try.ntmps55
  go_upto_region 4 with fail
  first | rw [HX.out] | rw [show ((((w.setCell ⟨gc, 6, none⟩ (.bool true)).setCell ⟨gc, 7, none⟩ (.bool true)).setCell ⟨gc, 1, none⟩ (.slice none 0 0))).drew = X.drew by rw [HX.out]]
  go_wp2_with fail
  refine LD.out.mono ?_
  rintro e w2 ⟨A, c, ks, rfl, hN, x2⟩
  go_wp2_with fail
  go_ret
  exact ⟨A, c, ks, L', rfl, HH.out.ext x2, by rw [← HSZ.out]; exact hN, HG.out.ext x2, HL.out⟩

def natI (xs : List Nat) : List Int := xs.map fun (x : Nat) => (x : Int)
theorem conv_any (w : World) (A : Option Addr) (n c : Nat) (xs : List Nat) (hl : xs.length = n) (hr : Rd w A (vals .u8 xs)) : (convert 28 9 (.slice A n c)).run Try.prog w = .ok (.string (strOfNums (natI xs))) w := by
  rcases Nat.eq_zero_or_pos n with hn | hn
  · subst hn
    obtain rfl : xs = [] := List.eq_nil_of_length_eq_zero hl
    exact run_convert_bytes_zero w _ _ Try.underlying28 Try.underlying5 A c _ Try.underlying9
  · obtain ⟨b, off, rfl, hc⟩ := hr (fun e => by have := congrArg List.length e; rw [vals_len, List.length_nil] at this; omega)
    exact run_convert_bytes_arg (P := Try.prog) w _ _ Try.underlying28 Try.underlying5 b off n c (natI xs) (by unfold natI; rw [List.length_map, hl]) (fun i hi => by
      obtain ⟨x, hx⟩ : ∃ x, xs[i]? = some x := ⟨_, List.getElem?_eq_getElem (by omega)⟩
      rw [hc i _ (vals_get hx)]
      unfold natI
      rw [List.getD_eq_getElem?_getD, List.getElem?_map, hx]
      rfl) _ Try.underlying9
theorem str_eq {xs ys : List Nat} (h : ∀ x ∈ xs, x < 256) (h' : ∀ x ∈ ys, x < 256) : strOfNums (natI xs) = strOfNums (natI ys) ↔ xs = ys := by
  constructor
  · intro e
    have e2 := congrArg (fun s : ByteArray => s.data.toList.map UInt8.toNat) e
    have hm : ∀ (l : List Nat), (∀ x ∈ l, x < 256) → (strOfNums (natI l)).data.toList.map UInt8.toNat = l := fun l hl => by
      rw [strOfNums_data]
      unfold natI
      rw [List.map_map, List.map_map]
      conv => rhs; rw [← List.map_id l]
      refine List.map_congr_left fun x hx => ?_
      have := hl x hx
      simp [UInt8.toNat_ofNat']
      omega
    rw [hm xs h, hm ys h'] at e2
    exact e2
  · intro e; rw [e]
set_option maxHeartbeats 400000 in
theorem bequal_any (w : World) (A B : Option Addr) (n c m d : Nat) (xs ys : List Nat) (hl : xs.length = n) (hl' : ys.length = m) (hb : ∀ x ∈ xs, x < 256) (hb' : ∀ x ∈ ys, x < 256) (hr : Rd w A (vals .u8 xs)) (hr' : Rd w B (vals .u8 ys)) :
    Calls Try.prog 87 #[.slice A n c, .slice B m d] w fun e w' => e = .returned (.bool (decide (xs = ys))) ∧ w = w' := by
  have h1 := conv_any w A n c xs hl hr
  have h2 := conv_any w B m d ys hl' hr'
  obtain ⟨s1, hs1⟩ : ∃ s, strOfNums (natI xs) = s := ⟨_, rfl⟩
  obtain ⟨s2, hs2⟩ : ∃ s, strOfNums (natI ys) = s := ⟨_, rfl⟩
  have hq := str_eq hb hb'
  rw [hs1] at h1
  rw [hs2] at h2
  rw [hs1, hs2] at hq
  by_cases hxy : xs = ys
  · have h3 : s1 = s2 := hq.2 hxy
    subst h3
    rw [decide_eq_true hxy]
    clear hq hs1 hs2 hl hl' hb hb' hr hr' hxy
    go_enter Try.func87, Try.ntmps87
    go_wp2_with fail
    go_ret
    exact ⟨rfl, rfl⟩
  · have h3 : (s1.toList == s2.toList) = false := by
      rw [ByteArray.toList_eq, ByteArray.toList_eq]
      exact beq_eq_false_iff_ne.2 (fun e => hxy (hq.1 (ByteArray.ext (Array.toList_inj.1 e))))
    rw [decide_eq_false hxy]
    clear hq hs1 hs2 hl hl' hb hb' hr hr' hxy
    go_enter Try.func87, Try.ntmps87
    go_wp2_with fail
    go_ret
    exact ⟨rfl, rfl⟩

def isTok (c : CCall) (t : CTok) : Bool := decide (t.pol = (c.pol : Int) ∧ t.key = c.key ∧ t.ser = (c.num : Int))
set_option maxHeartbeats 1000000 in
theorem crep1_any (w : World) (o K1c K2c n m p N : Nat) (K1 K2 : Option Addr) (op : Nat) (key ck : List Nat) (pt ser : Int) (hblk : w.heap[o]? = some (.cells #[.int .u8 (op : Int), .int .i64 (p : Int), .slice K1 n K1c, .int .i64 (N : Int)] 63 (0, 0)))
    (h1 : ck.length = n) (h2 : key.length = m) (hb1 : ∀ x ∈ ck, x < 256) (hb2 : ∀ x ∈ key, x < 256) (hr1 : Rd w K1 (vals .u8 ck)) (hr2 : Rd w K2 (vals .u8 key)) :
    Calls Try.prog 86 #[.agg #[.int .i64 pt, .slice K2 m K2c, .int .i64 ser], .pointer (some ⟨o, 0, none⟩)] w (RetE (.bool (isTok ⟨op, p, ck, N⟩ ⟨pt, key, ser⟩)) w) := by
  have xW : Ext w (w.alloc (.cells #[.int .i64 pt, .slice K2 m K2c, .int .i64 ser] 53)) := (Ext.refl w).alloc _
  have EQ := Lib.hid (bequal_any (w.alloc (.cells #[.int .i64 pt, .slice K2 m K2c, .int .i64 ser] 53)) K2 K1 m K2c n K1c key ck h2 h1 hb2 hb1 (hr2.ext xW) (hr1.ext xW))
  have kb := blk_ext hblk xW
  have c1 : (w.alloc (.cells #[.int .i64 pt, .slice K2 m K2c, .int .i64 ser] 53)).cell? ⟨o, 1, none⟩ = some (.int .i64 (p : Int)) := blk_cell kb 1
  have c2 : (w.alloc (.cells #[.int .i64 pt, .slice K2 m K2c, .int .i64 ser] 53)).cell? ⟨o, 2, none⟩ = some (.slice K1 n K1c) := blk_cell kb 2
  have c3 : (w.alloc (.cells #[.int .i64 pt, .slice K2 m K2c, .int .i64 ser] 53)).cell? ⟨o, 3, none⟩ = some (.int .i64 (N : Int)) := blk_cell kb 3
  have hol := blk_lt hblk
  unfold isTok
  dsimp only
  clear hblk kb h1 h2 hb1 hb2 hr1 hr2
  by_cases e1 : pt = (p : Int)
  · subst e1
    by_cases e2 : key = ck
    · rw [decide_eq_true e2] at EQ
      by_cases e3 : ser = (N : Int)
      · subst e3
        rw [decide_eq_true ⟨rfl, e2, rfl⟩]
        clear e2
        go_enter Try.func86, Try.ntmps86
        go_wp2_with fail
        refine EQ.out.mono ?_
        rintro e w1 ⟨rfl, rfl⟩
        go_wp2_with fail
        go_ret
        exact ⟨rfl, xW⟩
      · rw [decide_eq_false (fun h => e3 h.2.2)]
        have e3' : (ser == (N : Int)) = false := by simpa using e3
        clear e2 e3
        go_enter Try.func86, Try.ntmps86
        go_wp2_with fail
        refine EQ.out.mono ?_
        rintro e w1 ⟨rfl, rfl⟩
        go_wp2_with fail
        go_ret
        exact ⟨rfl, xW⟩
    · rw [decide_eq_false e2] at EQ
      rw [decide_eq_false (fun h => e2 h.2.1)]
      clear e2
      go_enter Try.func86, Try.ntmps86
      go_wp2_with fail
      refine EQ.out.mono ?_
      rintro e w1 ⟨rfl, rfl⟩
      go_wp2_with fail
      go_ret
      exact ⟨rfl, xW⟩
  · rw [decide_eq_false (fun h => e1 h.1)]
    have e1' : (pt == (p : Int)) = false := by simpa using e1
    clear e1
    go_enter Try.func86, Try.ntmps86
    go_wp2_with fail
    go_ret
    exact ⟨rfl, xW⟩
def idxT (c : CCall) : List CTok → Option Nat
  | [] => none
  | t :: l => if isTok c t = true then some 0 else (idxT c l).map (· + 1)
theorem idx_at {c : CCall} : ∀ {l : List CTok} {j : Nat} {t : CTok}, (∀ (q : Nat) (x : CTok), q < j → l[q]? = some x → isTok c x = false) → l[j]? = some t → isTok c t = true → idxT c l = some j
  | [], _, _, _, h, _ => by simp at h
  | y :: l, 0, t, _, h, ht => by
    simp at h
    subst h
    exact if_pos ht
  | y :: l, j + 1, t, hn, h, ht => by
    have hy := hn 0 y (by omega) rfl
    unfold idxT
    rw [if_neg (by rw [hy]; exact Bool.false_ne_true), idx_at (j := j) (fun q x hq hx => hn (q + 1) x (by omega) (by simpa using hx)) (by simpa using h) ht]
    rfl
theorem idx_none {c : CCall} : ∀ {l : List CTok}, (∀ (q : Nat) (x : CTok), l[q]? = some x → isTok c x = false) → idxT c l = none
  | [], _ => rfl
  | y :: l, hn => by
    have hy := hn 0 y rfl
    unfold idxT
    rw [if_neg (by rw [hy]; exact Bool.false_ne_true), idx_none (fun q x hx => hn (q + 1) x (by simpa using hx))]
    rfl
def idxV (o : Option Nat) : Int := match o with
  | some i => (i : Int)
  | none => -1
set_option maxHeartbeats 1000000 in
set_option maxRecDepth 100000 in
theorem cindex_any (w : World) (A : Option Addr) (nl cl : Nat) (l : List CTok) (ks : List KRef) (o K1c n p N op : Nat) (K1 : Option Addr) (ck : List Nat) (hl : l.length = nl) (hnl : nl ≤ 100000) (hE : TokRd w A l ks) (hkb : ∀ t ∈ l, ∀ x ∈ t.key, x < 256)
    (hblk : w.heap[o]? = some (.cells #[.int .u8 (op : Int), .int .i64 (p : Int), .slice K1 n K1c, .int .i64 (N : Int)] 63 (0, 0))) (h1 : ck.length = n) (hb1 : ∀ x ∈ ck, x < 256) (hr1 : Rd w K1 (vals .u8 ck)) :
    Calls Try.prog 85 #[.slice A nl cl, .func (.func 86) #[] #[.pointer (some ⟨o, 0, none⟩)]] w (RetE (.int .i64 (idxV (idxT ⟨op, p, ck, N⟩ l))) w) := by
  have Hl := Lib.hid hl; have HE := Lib.hid hE; have HB := Lib.hid hkb; have HBL := Lib.hid hblk; have H1 := Lib.hid h1; have HB1 := Lib.hid hb1; have HR1 := Lib.hid hr1
  clear hl hE hkb hblk h1 hb1 hr1
  go_enter Try.func85, Try.ntmps85
  go_wp2_with fail
  go_loopw [8] (fun i wr => ∃ j : Nat, j ≤ nl ∧ i = .int .i64 (j : Int) ∧ Ext w wr ∧ ∀ q x, q < j → l[q]? = some x → isTok ⟨op, p, ck, N⟩ x = false) (fun i _ => nl - (intOf i).toNat)
  case atStart => exact ⟨0, Nat.zero_le _, rfl, Ext.refl w, fun q e h => absurd h (Nat.not_lt_zero q)⟩
  case round =>
    obtain ⟨j, hj, rfl, hx, hne⟩ := hrel
    have HX := Lib.hid hx; have HNE := Lib.hid hne
    clear hne
    by_cases hlt : j < nl
    · obtain ⟨e, he⟩ : ∃ e, l[j]? = some e := ⟨_, List.getElem?_eq_getElem (by rw [Hl.out]; exact hlt)⟩
      obtain ⟨b, off, K2, kc, hA, hks, d0, d1, d2, hkc, hkr⟩ := (HE.out.ext hx).at_ he
      have hkb9 := HB.out e (List.mem_of_getElem? he)
      have He := Lib.hid he
      obtain ⟨pt, x, ser⟩ := e
      dsimp only at d0 d1 d2 hkc hkr hkb9
      subst hA
      obtain ⟨m, Hm⟩ : ∃ m, Hid (x.length = m) := ⟨_, rfl⟩
      rw [Hm.out] at d1 hkc
      have CR := Lib.hid (crep1_any wr o K1c kc n m p N K1 K2 op x ck pt ser (blk_ext HBL.out hx) H1.out Hm.out HB1.out hkb9 (HR1.out.ext hx) hkr)
      clear he hkr hkb9 hx hks
      cases ht : isTok ⟨op, p, ck, N⟩ ⟨pt, x, ser⟩ with
      | true =>
        rw [ht] at CR
        have HT := Lib.hid ht
        clear ht
        go_wp2_with fail
        refine CR.out.mono ?_
        rintro e w3 ⟨rfl, x3⟩
        go_wp2_with fail
        go_ret
        refine ⟨?_, HX.out.trans x3⟩
        rw [idx_at HNE.out He.out HT.out]
        rfl
      | false =>
        rw [ht] at CR
        have HT := Lib.hid ht
        clear ht
        go_wp2_with fail
        refine CR.out.mono ?_
        rintro e w3 ⟨rfl, x3⟩
        have X3 := Lib.hid (HX.out.trans x3)
        clear x3
        go_wp2_with fail
        go_roundw
        case rel => exact ⟨j + 1, hlt, by go_num, X3.out, fun q y hq hy => by
          rcases Nat.lt_or_ge q j with h | h
          · exact HNE.out q y h hy
          · obtain rfl : q = j := by omega
            rw [He.out] at hy
            injection hy with hy
            subst hy
            exact HT.out⟩
        case measure => simp [intOf]; omega
    · obtain rfl : j = nl := by omega
      go_wp2_with fail
      go_ret
      refine ⟨?_, HX.out⟩
      rw [idx_none (fun q y hy => HNE.out q y (by rw [← Hl.out]; exact (List.getElem?_eq_some_iff.1 hy).1) hy)]
      rfl

/-- no call is out any more -/
theorem ConnAt.outNone {w : World} {base gc r : Nat} {L : List (Option Nat)} {RO : Nat → Prop} {s : CSt} (h : ConnAt w base L RO gc r s) :
    ConnAt (w.setCell ⟨gc, 3, none⟩ (.pointer none)) base L RO gc r { s with out := none } ∧ GB w (w.setCell ⟨gc, 3, none⟩ (.pointer none)) (· = gc) := by
  obtain ⟨S, lv, ov, lob, lk, tk, WA, TA, wn, wc, tn, tc, h1, h2, h3, h4, h5, h6, h7, h8, h9, h10, h11, h12, h13, h14, h15, h16, h17, h18, h19⟩ := h
  have h2' := h2
  rw [h1] at h2'
  obtain ⟨a1, a2, a3, a4⟩ := apart5 h2'
  have g : GB w (w.setCell ⟨gc, 3, none⟩ (.pointer none)) (· = gc) := (GB.refl w (· = gc)).set gc 3 _ (.inl rfl)
  have hR : ∀ b, RO b → ¬ b = gc := fun b hb e => (h18 b hb).1 (by rw [h1, e]; simp)
  exact ⟨⟨S, lv, .pointer none, lob, lk, tk, WA, TA, wn, wc, tn, tc, h1, h2, blk_set h3 3 _, IsRdr.gb h4 g (fun e => a1 e.symm) (fun b hb => hR b (h5 b hb)), h5, h6, h7.gb g (fun b e => (a2 b e).1), h8.gbk h9 g hR, h9, rfl, h11, g.own h12 (fun b e => (a3 b e).1), h13, h14, g.own h15 (fun b e => (a4 b e).1), h16.gbk h17 g hR, h17, fun b hb => ⟨(h18 b hb).1, (h18 b hb).2.1, by simpa using (h18 b hb).2.2⟩, fun b hb => ⟨(h19 b hb).1, by simpa using (h19 b hb).2⟩⟩, g⟩
theorem mem5'' {b gc r : Nat} {x y z z' : Option Nat} (h : some b ∈ [some gc, some r, x, y, z']) : some b ∈ [some gc, some r, x, y, z] ∨ z' = some b := by
  rcases List.mem_cons.1 h with h | h
  · rw [h]; exact .inl List.mem_cons_self
  · rcases List.mem_cons.1 h with h | h
    · rw [h]; exact .inl (List.mem_cons_of_mem _ List.mem_cons_self)
    · rcases List.mem_cons.1 h with h | h
      · rw [h]; exact .inl (List.mem_cons_of_mem _ (List.mem_cons_of_mem _ List.mem_cons_self))
      · rcases List.mem_cons.1 h with h | h
        · rw [h]; exact .inl (List.mem_cons_of_mem _ (List.mem_cons_of_mem _ (List.mem_cons_of_mem _ List.mem_cons_self)))
        · exact .inr (List.mem_singleton.1 h).symm
/-- the ledger, and what it may become -/
theorem ConnAt.ledger {w : World} {base gc r : Nat} {L : List (Option Nat)} {RO : Nat → Prop} {s : CSt} (h : ConnAt w base L RO gc r s) :
    ∃ (TA : Option Addr) (tc : Nat) (tk : List KRef), w.cell? ⟨gc, 5, none⟩ = some (.slice TA s.led.length tc) ∧ w.frozen? ⟨gc, 5, none⟩ = false ∧ (Value.slice TA s.led.length tc).ownBlock ≠ some gc ∧ w.ownsRow base 53 3 (.slice TA s.led.length tc) s.led.length (toksV tk s.led) ∧ tk.length = s.led.length ∧ KeysRd w (fun t => t.key) tk s.led ∧ (∀ k ∈ tk, KeyIn RO k) ∧ base ≤ w.heap.size ∧ (∀ b, (Value.slice TA s.led.length tc).ownBlock = some b → some b ∈ L) ∧
      ∀ (B : Option Addr) (n' cb : Nat) (w3 : World) (l' : List CTok) (tk' : List KRef), l'.length = n' → tk'.length = l'.length → w3.ownsRow base 53 3 (.slice B n' cb) n' (toksV tk' l') → KeysRd w (fun t => t.key) tk' l' → (∀ k ∈ tk', KeyIn RO k) → GB w w3 (fun b => (Value.slice TA s.led.length tc).ownBlock = some b) → (∀ b, (Value.slice B n' cb).ownBlock = some b → (Value.slice TA s.led.length tc).ownBlock = some b ∨ w.heap.size ≤ b) →
        ConnGo w base L RO gc r { s with led := l' } (w3.setCell ⟨gc, 5, none⟩ (.slice B n' cb)) := by
  obtain ⟨S, lv, ov, lob, lk, tk, WA, TA, wn, wc, tn, tc, h1, h2, h3, h4, h5, h6, h7, h8, h9, h10, h11, h12, h13, h14, h15, h16, h17, h18, h19⟩ := h
  subst h14
  rw [h1] at h2
  obtain ⟨a1, a2, a3, a4⟩ := apart5 h2
  have hgcl := (h19 gc (by rw [h1]; simp))
  have hwL : ∀ b, (Value.slice TA s.led.length tc).ownBlock = some b → some b ∈ L := fun b e => by rw [h1, ← e]; simp
  refine ⟨TA, tc, tk, blk_cell h3 5, blk_frozen h3 5, fun e => (a4 gc e).1 rfl, h15, h13, h16, h17, Nat.le_trans hgcl.1 (Nat.le_of_lt hgcl.2), hwL, fun B n' cb w3 l' tk' hl hkl ho hkr hki g hb => ?_⟩
  have g2 : GB w (w3.setCell ⟨gc, 5, none⟩ (.slice B n' cb)) (fun b => b = gc ∨ (Value.slice TA s.led.length tc).ownBlock = some b) := (g.more (fun b _ e => .inr e)).trans ((GB.refl w3 (· = gc)).set gc 5 _ (.inl rfl)) (fun b e => .inl (.inl e))
  have hR : ∀ b, RO b → ¬ (b = gc ∨ (Value.slice TA s.led.length tc).ownBlock = some b) := fun b hb e => (h18 b hb).1 (e.elim (fun e => by rw [h1, e]; simp) (hwL b))
  have hsz := g.size
  have hnew : ∀ q, (Value.slice B n' cb).ownBlock = some q → q ≠ gc ∧ q ≠ r ∧ lob ≠ some q ∧ (Value.slice WA wn wc).ownBlock ≠ some q := fun q e => (hb q e).elim (fun e => a4 q e) (fun e => ⟨fun e2 => by omega, fun e2 => by have := (h19 r (by rw [h1]; simp)).2; omega, fun e2 => by have := (h19 q (by rw [h1, ← e2]; simp)).2; omega, fun e2 => by have := (h19 q (by rw [h1, ← e2]; simp)).2; omega⟩)
  refine ⟨[some gc, some r, lob, (Value.slice WA wn wc).ownBlock, (Value.slice B n' cb).ownBlock], RO, ⟨S, lv, ov, lob, lk, tk', WA, B, wn, wc, n', cb, rfl, apart5_mk a1 a2 a3 hnew, blk_set (g.blk h3 (fun e => (a4 gc e).1 rfl)) 5 _, IsRdr.gb h4 g2 (fun e => e.elim (fun e => a1 e.symm) (fun e => (a4 r e).2.1 rfl)) (fun b hb => hR b (h5 b hb)), h5, h6, h7.gb g2 (fun b e e2 => e2.elim (fun e2 => (a2 b e).1 e2) (fun e2 => (a4 b e2).2.2.1 e)), h8.gbk h9 g2 hR, h9, h10.gbk g2 hR, h11, g2.own h12 (fun b e e2 => e2.elim (fun e2 => (a3 b e).1 e2) (fun e2 => (a4 b e2).2.2.2 e)), hkl, hl, (((GB.refl w3 (· = gc)).set gc 5 _ (.inl rfl)).own ho (fun b e e2 => (hnew b e).1 e2)), hkr.gbk hki g2 hR, hki, fun b hbR => ⟨fun e => ?_, (h18 b hbR).2.1, Nat.lt_of_lt_of_le (h18 b hbR).2.2 g2.size⟩, fun b hbL => ?_⟩, g2.more (fun b _ e => e.elim (fun e => by rw [h1, e]; simp) (hwL b)), fun b hbL => ?_, fun b e => .inl e⟩
  · rcases mem5'' (z := (Value.slice TA s.led.length tc).ownBlock) e with e | e
    · exact (h18 b hbR).1 (by rw [h1]; exact e)
    · rcases hb b e with e | e
      · exact (h18 b hbR).1 (hwL b e)
      · have := (h18 b hbR).2.2; omega
  · rcases mem5'' (z := (Value.slice TA s.led.length tc).ownBlock) hbL with e | e
    · have := h19 b (by rw [h1]; exact e)
      exact ⟨this.1, Nat.lt_of_lt_of_le this.2 g2.size⟩
    · have := ho.lt b e
      exact ⟨this.1, by simpa using this.2⟩
  · rcases mem5'' (z := (Value.slice TA s.led.length tc).ownBlock) hbL with e | e
    · exact .inl (by rw [h1]; exact e)
    · exact (hb b e).imp (hwL b) id
end

section

section
variable {P : Program} {ops : Array Oper} {Q : Exit → Act → World → Prop} {md : Region.Mode} {S : World → Prop} {K : List Nat}

/-- S holds, as long as none of K has come up -/
def HeldT (S : World → Prop) (K : List Nat) (listed : Array Bool) (w : World) : Prop := (∀ k ∈ K, listed.getD k true = false) → S w
/-- whatever order is picked; S holds behind each operation, as long as none of K has come up -/
def wpAnyK (P : Program) (md : Region.Mode) (ops : Array Oper) (Q : Exit → Act → World → Prop) (S : World → Prop) (K : List Nat) : Nat → Array Bool → Act → World → Prop
  | 0, listed, a, w => Region.ready md ops listed = [] ∧ Q .normal a w
  | fuel + 1, listed, a, w => (Region.ready md ops listed = [] → Q .normal a w) ∧
    ∀ i ∈ Region.ready md ops listed, wpOp P ops Q i (fun a' w' => HeldT S K (listed.setIfInBounds i true) w' ∧ wpAnyK P md ops Q S K fuel (listed.setIfInBounds i true) a' w') a w
theorem wpAny_of_k : ∀ (fuel : Nat) (listed : Array Bool) (a : Act) (w : World), wpAnyK P md ops Q S K fuel listed a w → wpAny P md ops Q fuel listed a w
  | 0, _, _, _, h => h
  | fuel + 1, _, _, _, h => ⟨h.1, fun i hi => wpOp_mono (fun a' w' h' => wpAny_of_k fuel _ a' w' h'.2) (h.2 i hi)⟩
/-- whatever has come up, all that it waits for has come up -/
def closedB (md : Region.Mode) (ops : Array Oper) (listed : Array Bool) : Bool :=
  (List.range ops.size).all fun j => !listed.getD j false || match ops[j]? with
    | some o => o.after.all fun e => !Region.binds md e || listed.getD e.on false
    | none => true
def Closed (md : Region.Mode) (ops : Array Oper) (listed : Array Bool) : Prop :=
  ∀ j o, ops[j]? = some o → listed.getD j false = true → ∀ e ∈ o.after, Region.binds md e = true → listed.getD e.on false = true
theorem closed_of {listed : Array Bool} (h : closedB md ops listed = true) : Closed md ops listed := fun j o ho hl e he hb => by
  unfold closedB at h
  rw [List.all_eq_true] at h
  have h1 := h j (List.mem_range.2 (Array.getElem?_eq_some_iff.1 ho).1)
  simp only [hl, ho, Bool.not_true, Bool.false_or] at h1
  have h2 := Array.all_eq_true_iff_forall_mem.1 h1 e he
  simpa [hb] using h2
theorem getD_set_self' {listed : Array Bool} {i : Nat} (h : (listed.setIfInBounds i true).getD i false = false) : ¬ i < listed.size := fun hi => by
  simp [hi] at h
theorem Closed.set {listed : Array Bool} {j : Nat} (h : Closed md ops listed) (hj : j ∈ Region.ready md ops listed) : Closed md ops (listed.setIfInBounds j true) := fun i o ho hl e he hb => by
  by_cases hij : i = j
  · subst hij
    obtain ⟨_, o', ho', hall⟩ := mem_ready.1 hj
    rw [ho] at ho'
    injection ho' with ho'
    subst ho'
    exact getD_set_true (hall e he hb)
  · rw [getD_set_ne false (fun e => hij e.symm)] at hl
    exact getD_set_true (h i o ho hl e he hb)
/-- k waits for i, directly or through others -/
def waitsOn (md : Region.Mode) (ops : Array Oper) (i : Nat) : Nat → Nat → Bool
  | 0, _ => false
  | n + 1, k => match ops[k]? with
    | some o => o.after.toList.any fun e => Region.binds md e && (e.on == i || waitsOn md ops i n e.on)
    | none => false
theorem waits_spec {listed : Array Bool} (hc : Closed md ops listed) {i : Nat} : ∀ (n k : Nat), waitsOn md ops i n k = true → (∀ o, ops[k]? = some o → ∀ e ∈ o.after, Region.binds md e = true → listed.getD e.on false = true) → listed.getD i false = true
  | 0, _, h, _ => by cases h
  | n + 1, k, h, hk => by
    unfold waitsOn at h
    cases ho : ops[k]? with
    | none => rw [ho] at h; cases h
    | some o =>
      rw [ho] at h
      obtain ⟨e, he', h1⟩ := List.any_eq_true.1 h
      have he : e ∈ o.after := by simpa using he'
      rw [Bool.and_eq_true, Bool.or_eq_true] at h1
      obtain ⟨hb, h2⟩ := h1
      have hl := hk o ho e he hb
      rcases h2 with h2 | h2
      · rw [← of_decide_eq_true h2]; exact hl
      · exact waits_spec hc n e.on h2 fun o' ho' => hc e.on o' ho' hl
theorem HeldT.set {listed : Array Bool} {w : World} {i : Nat} (h : HeldT S K listed w) (hi : i ∉ K) : HeldT S K (listed.setIfInBounds i true) w := fun hk => h fun k hkk => by
  have := hk k hkk
  rwa [getD_set_ne true (show i ≠ k from fun e => hi (e ▸ hkk))] at this
theorem HeldT.back {listed : Array Bool} {w : World} {i : Nat} (h : HeldT S K (listed.setIfInBounds i true) w) (hi : i ∉ K) : HeldT S K listed w := fun hk => h fun k hkk => by
  rw [getD_set_ne true (show i ≠ k from fun e => hi (e ▸ hkk))]
  exact hk k hkk
theorem not_listed {listed : Array Bool} {i : Nat} (hi0 : listed.getD i true = false) : ¬ listed.getD i false = true := fun e => by
  rcases Nat.lt_or_ge i listed.size with h' | h'
  · simp [h'] at hi0 e; rw [hi0] at e; cases e
  · simp [Array.getElem?_eq_none h'] at e
theorem not_ready {listed : Array Bool} {i : Nat} (h : ¬ listed.getD i true = true) : listed.getD i true = false := by
  cases e : listed.getD i true with
  | false => rfl
  | true => exact absurd e h
/-- while i has not come up, none of K has that waits for i -/
theorem none_listed {listed : Array Bool} {i n : Nat} (hc : Closed md ops listed) (hs : ops.size ≤ listed.size) (hi0 : listed.getD i true = false) (hw : ∀ k ∈ K, waitsOn md ops i n k = true) : ∀ k ∈ K, listed.getD k true = false := fun k hk => not_ready fun e => by
  have hw' := hw k hk
  refine not_listed hi0 (waits_spec hc n k hw' fun o ho => hc k o ho ?_)
  have hlt : k < ops.size := (Array.getElem?_eq_some_iff.1 ho).1
  have : k < listed.size := by omega
  simp [this] at e ⊢
  exact e
theorem wpAnyK_first {i n : Nat} {oi : Oper} {v : Value} (hi : ops[i]? = some oi) (hsel : ∀ (j : Nat) (o : Oper) cs b, ops[j]? = some o → o.op ≠ .select cs b)
    (hQ : ∀ c a w, Q (.panic c) (a.put oi.dst v) w → Q (.panic c) a w) (hw : ∀ k ∈ K, waitsOn md ops i n k = true) (hiK : i ∉ K) :
    ∀ (fuel : Nat) (listed : Array Bool) (a : Act) (w : World),
      (∀ j oj, ops[j]? = some oj → j ≠ i → listed.getD j true = false → (∀ e ∈ oj.after, Region.binds md e = true → e.on ≠ i) → oi.apart ops oj = true) →
      i ∈ Region.ready md ops listed → Closed md ops listed → ops.size ≤ listed.size → YieldsIf P ops S oi v a → S w →
      wpAnyK P md ops Q S K fuel (listed.setIfInBounds i true) (a.put oi.dst v) w → wpAnyK P md ops Q S K (fuel + 1) listed a w := by
  intro fuel
  induction fuel with
  | zero =>
    intro listed a w _ hr _ _ hy hS H
    refine ⟨fun h => (by rw [h] at hr; cases hr), fun j hj => ?_⟩
    by_cases hji : j = i
    · subst hji; exact hy.wpOp hi hS ⟨fun _ => hS, H⟩
    · have := ready_mono hj hji
      rw [H.1] at this
      cases this
  | succ fuel ih =>
    intro listed a w hfree hr hcl hsz hy hS H
    refine ⟨fun h => (by rw [h] at hr; cases hr), fun j hj => ?_⟩
    by_cases hji : j = i
    · subst hji; exact hy.wpOp hi hS ⟨fun _ => hS, H⟩
    · have h1 := H.2 j (ready_mono hj hji)
      obtain ⟨hjun, oj, hoj, hall⟩ := mem_ready.1 hj
      have hi0 := (mem_ready.1 hr).1
      have hnot : ∀ e ∈ oj.after, Region.binds md e = true → e.on ≠ i := fun e he hb heq => not_listed hi0 (heq ▸ hall e he hb)
      have h2 := wpOp_putIf hoj (hfree j oj hoj hji hjun hnot) (fun cs b => hsel i oi cs b hi) (fun cs b => hsel j oj cs b hoj) hQ hy h1
      have hfree' : ∀ k ok, ops[k]? = some ok → k ≠ i → (listed.setIfInBounds j true).getD k true = false →
          (∀ e ∈ ok.after, Region.binds md e = true → e.on ≠ i) → oi.apart ops ok = true := fun k ok hk hki hun hno => by
        refine hfree k ok hk hki ?_ hno
        by_cases hjk : j = k
        · subst hjk; exact hjun
        · rw [getD_set_ne true hjk] at hun; exact hun
      have hcl' := hcl.set hj
      have hsz' : ops.size ≤ (listed.setIfInBounds j true).size := by simpa using hsz
      have hi0' : (listed.setIfInBounds j true).getD i true = false := by rw [getD_set_ne true hji]; exact hi0
      refine wpOp_mono (fun a' w' h3 => ?_) h2
      have hS' : HeldT S K (listed.setIfInBounds j true) w' := by
        have := h3.2.1
        rw [Array.setIfInBounds_comm _ _ (fun e => hji e.symm)] at this
        exact this.back hiK
      refine ⟨hS', ih (listed.setIfInBounds j true) a' w' hfree' (ready_mono hr (Ne.symm hji)) hcl' hsz' h3.1 (hS' (none_listed hcl' hsz' hi0' hw)) ?_⟩
      rw [Array.setIfInBounds_comm _ _ hji]
      exact h3.2.2
/-- take number i first -/
theorem wpAnyK_take (n : Nat) {i : Nat} {oi : Oper} {v : Value} {fuel : Nat} {listed : Array Bool} {a : Act} {w : World} (hi : ops[i]? = some oi)
    (hs : Region.noSelect ops = true) (hf : Region.free md ops listed i = true) (hr : (Region.ready md ops listed).contains i = true) (hc : (closedB md ops listed && decide (ops.size ≤ listed.size)) = true) (hk : ((K.all fun k => waitsOn md ops i n k) && !K.contains i) = true)
    (hQ : ∀ c a w, Q (.panic c) (a.put oi.dst v) w → Q (.panic c) a w) (hy : YieldsIf P ops S oi v a) (hS : S w)
    (h : wpAnyK P md ops Q S K fuel (listed.setIfInBounds i true) (a.put oi.dst v) w) : wpAnyK P md ops Q S K (fuel + 1) listed a w := by
  rw [Bool.and_eq_true] at hc hk
  exact wpAnyK_first hi (Region.noSelect_spec hs) hQ (fun k hk' => List.all_eq_true.1 hk.1 k hk') (by simpa using hk.2) fuel listed a w (Region.free_spec hi hf) (by simpa using hr) (closed_of hc.1) (of_decide_eq_true hc.2) hy hS h
theorem wpAnyK_free' {i : Nat} {oi : Oper} {v : Value} (hi : ops[i]? = some oi) (hsel : ∀ (j : Nat) (o : Oper) cs b, ops[j]? = some o → o.op ≠ .select cs b)
    (hQ : ∀ c a w, Q (.panic c) (a.put oi.dst v) w → Q (.panic c) a w) (hK : i ∉ K) :
    ∀ (fuel : Nat) (listed : Array Bool) (a : Act) (w : World),
      (∀ j oj, ops[j]? = some oj → j ≠ i → listed.getD j true = false → (∀ e ∈ oj.after, Region.binds md e = true → e.on ≠ i) → oi.apart ops oj = true) →
      i ∈ Region.ready md ops listed → YieldsIf P ops (fun _ => True) oi v a → HeldT S K listed w →
      wpAnyK P md ops Q S K fuel (listed.setIfInBounds i true) (a.put oi.dst v) w → wpAnyK P md ops Q S K (fuel + 1) listed a w := by
  intro fuel
  induction fuel with
  | zero =>
    intro listed a w _ hr hy hT H
    refine ⟨fun h => (by rw [h] at hr; cases hr), fun j hj => ?_⟩
    by_cases hji : j = i
    · subst hji; exact hy.wpOp hi trivial ⟨hT.set hK, H⟩
    · have := ready_mono hj hji
      rw [H.1] at this
      cases this
  | succ fuel ih =>
    intro listed a w hfree hr hy hT H
    refine ⟨fun h => (by rw [h] at hr; cases hr), fun j hj => ?_⟩
    by_cases hji : j = i
    · subst hji; exact hy.wpOp hi trivial ⟨hT.set hK, H⟩
    · have h1 := H.2 j (ready_mono hj hji)
      obtain ⟨hjun, oj, hoj, hall⟩ := mem_ready.1 hj
      have hi0 := (mem_ready.1 hr).1
      have hnot : ∀ e ∈ oj.after, Region.binds md e = true → e.on ≠ i := fun e he hb heq => not_listed hi0 (heq ▸ hall e he hb)
      have h2 := wpOp_putIf hoj (hfree j oj hoj hji hjun hnot) (fun cs b => hsel i oi cs b hi) (fun cs b => hsel j oj cs b hoj) hQ hy h1
      have hfree' : ∀ k ok, ops[k]? = some ok → k ≠ i → (listed.setIfInBounds j true).getD k true = false →
          (∀ e ∈ ok.after, Region.binds md e = true → e.on ≠ i) → oi.apart ops ok = true := fun k ok hk hki hun hno => by
        refine hfree k ok hk hki ?_ hno
        by_cases hjk : j = k
        · subst hjk; exact hjun
        · rw [getD_set_ne true hjk] at hun; exact hun
      refine wpOp_mono (fun a' w' h3 => ?_) h2
      have hS' : HeldT S K (listed.setIfInBounds j true) w' := by
        have := h3.2.1
        rw [Array.setIfInBounds_comm _ _ (fun e => hji e.symm)] at this
        exact this.back hK
      refine ⟨hS', ih (listed.setIfInBounds j true) a' w' hfree' (ready_mono hr (Ne.symm hji)) h3.1 hS' ?_⟩
      rw [Array.setIfInBounds_comm _ _ hji]
      exact h3.2.2
/-- take number i first: it yields in whatever world -/
theorem wpAnyK_free {i : Nat} {oi : Oper} {v : Value} {fuel : Nat} {listed : Array Bool} {a : Act} {w : World} (hi : ops[i]? = some oi)
    (hs : Region.noSelect ops = true) (hf : Region.free md ops listed i = true) (hr : (Region.ready md ops listed).contains i = true) (hK : (!K.contains i) = true)
    (hQ : ∀ c a w, Q (.panic c) (a.put oi.dst v) w → Q (.panic c) a w) (hy : YieldsIf P ops (fun _ => True) oi v a) (hT : HeldT S K listed w)
    (h : wpAnyK P md ops Q S K fuel (listed.setIfInBounds i true) (a.put oi.dst v) w) : wpAnyK P md ops Q S K (fuel + 1) listed a w :=
  wpAnyK_free' hi (Region.noSelect_spec hs) hQ (by simpa using hK) fuel listed a w (Region.free_spec hi hf) (by simpa using hr) hy hT h
theorem HeldT.of {listed : Array Bool} {w : World} (h : S w) : HeldT S K listed w := fun _ => h
/-- one of K has come up -/
theorem HeldT.past {listed : Array Bool} {w : World} (h : (K.any fun k => listed.getD k true) = true) : HeldT S K listed w := fun hk => by
  obtain ⟨k, h1, h2⟩ := List.any_eq_true.1 h
  rw [hk k h1] at h2
  cases h2
theorem wpAnyK_done {listed : Array Bool} {a : Act} {w : World} (hr : Region.ready md ops listed = []) (h : Q .normal a w) : ∀ fuel, wpAnyK P md ops Q S K fuel listed a w
  | 0 => ⟨hr, h⟩
  | _ + 1 => ⟨fun _ => h, by rw [hr]; simp⟩
def AllReadyK (P : Program) (md : Region.Mode) (ops : Array Oper) (Q : Exit → Act → World → Prop) (S : World → Prop) (K : List Nat) (fuel : Nat) (listed : Array Bool) (a : Act) (w : World) (rs : List Nat) : Prop :=
  ∀ i ∈ rs, wpOp P ops Q i (fun a' w' => HeldT S K (listed.setIfInBounds i true) w' ∧ wpAnyK P md ops Q S K fuel (listed.setIfInBounds i true) a' w') a w
theorem AllReadyK.nil {fuel : Nat} {listed : Array Bool} {a : Act} {w : World} : AllReadyK P md ops Q S K fuel listed a w [] := fun _ h => by cases h
theorem AllReadyK.cons {fuel : Nat} {listed : Array Bool} {a : Act} {w : World} {i : Nat} {o : Oper} {rs : List Nat} (ho : ops[i]? = some o)
    (h : ∀ K' : Act → World → Prop, Shut (∀ a w, S w → wpAnyK P md ops Q S K fuel (listed.setIfInBounds i true) a w → K' a w) → if Region.wanted o (yielded ops a.tmps) = true then Oper.wp P o a w K' Q else K' (a.put o.dst undef) w)
    (hs : AllReadyK P md ops Q S K fuel listed a w rs) : AllReadyK P md ops Q S K fuel listed a w (i :: rs) := fun j hj => by
  rcases List.mem_cons.1 hj with rfl | hj
  · exact wpOp_step ho (fun K' hK => h K' (fun a w hS hW => hK a w ⟨.of hS, hW⟩))
  · exact hs j hj
/-- an operation of K, or behind one -/
theorem AllReadyK.last {fuel : Nat} {listed : Array Bool} {a : Act} {w : World} {i : Nat} {o : Oper} {rs : List Nat} (hi : (K.any fun k => (listed.setIfInBounds i true).getD k true) = true) (ho : ops[i]? = some o)
    (h : ∀ K' : Act → World → Prop, Shut (∀ a w, wpAnyK P md ops Q S K fuel (listed.setIfInBounds i true) a w → K' a w) → if Region.wanted o (yielded ops a.tmps) = true then Oper.wp P o a w K' Q else K' (a.put o.dst undef) w)
    (hs : AllReadyK P md ops Q S K fuel listed a w rs) : AllReadyK P md ops Q S K fuel listed a w (i :: rs) := fun j hj => by
  rcases List.mem_cons.1 hj with rfl | hj
  · exact wpOp_step ho (fun K' hK => h K' (fun a w hW => hK a w ⟨.past hi, hW⟩))
  · exact hs j hj
theorem wpAnyK_ready {rs : List Nat} {fuel : Nat} {listed : Array Bool} {a : Act} {w : World} (hr : Region.ready md ops listed = rs) (hne : rs ≠ [])
    (h : AllReadyK P md ops Q S K fuel listed a w rs) : wpAnyK P md ops Q S K (fuel + 1) listed a w := ⟨fun h0 => absurd (hr ▸ h0) hne, hr ▸ h⟩
theorem wp_region_k {id : Nat} {a : Act} {w : World} (S : World → Prop) (K : List Nat) (hm : P.follows .mixedOrders = true)
    (h : wpAnyK P .any ops Q S K ops.size (Array.replicate ops.size false) a w.drew) : (Code.region id ops true).wp P Q a w :=
  wp_region_any hm (wpAny_of_k _ _ _ _ h)
end
end
end Go.Proofs.Ythkdjjfnmlemdaa
