/- Laid together: what 'TopGivenBack' needs, part 3 of 12. -/
import Derived.Deep.DeepCutAuto
import Derived.Deep.RegionWith
import Derived.BigQuiet
import Derived.Laws.IdiomCopy
import Derived.Laws.OwnMore
import Derived.Lib.SliceRun
import Derived.Shelf.Spec.SlicesInsertGrow
import Derived.Test.YtloidkmphigbdaaGreatProg
import Derived.Outline
import Derived.WalkLawsBesides
import Derived.Shelf.Slices.Delete
import Derived.Deep.RegionHeld3
import Derived.Test.YtloidkmphigbdaaGreatBTopGivenBack1
import Derived.Test.YtloidkmphigbdaaGreatBTopGivenBack2
namespace Go.Proofs.YtloidkmphigbdaaGreat
set_option linter.all false

section
open Go.RowKit

def KeyOk (c : PCell) : Prop := c.pol < 32 ∧ c.key.length ≤ 255 ∧ ∀ x ∈ c.key, x < 256
theorem id_bytes {c : PCell} (h : KeyOk c) : ∀ x ∈ c.id, x < 256 := fun x hx => by
  rcases List.mem_cons.1 hx with hx | hx
  · rw [hx]; have := h.1; omega
  · exact h.2.2 x hx
/-- bytes in new memory, their number a letter -/
def RetBL (l : Nat) (xs : List Nat) (w : World) (e : Ending) (w' : World) : Prop :=
  ∃ A c, e = .returned (.tuple #[.slice A l c, .int .i64 0]) ∧ Rd w' A (vals .u8 xs) ∧ Ext w w'
theorem ident_l (p : Nat) (A : Option Addr) (n c l : Nat) (xs : List Nat) (w : World) (hp : p < 32) (hl : xs.length = n) (hn : n ≤ 255) (hr : Rd w A (vals .u8 xs)) (hL : (p :: xs).length = l) :
    Calls Tryz.prog 72 #[.int .i64 (p : Int), .slice A n c] w (RetBL l (p :: xs) w) := by
  refine (ident_ok p A n c xs w hp hl hn hr).mono ?_
  rintro e w1 ⟨A1, c1, rfl, o1, x1⟩
  rw [hL]
  exact ⟨A1, c1, rfl, Rd.of_own o1, x1⟩
set_option maxHeartbeats 1000000 in
theorem corder_any (w : World) (a b : PCell) (ra rb : CRef) (n m i j : Nat) (ha : KeyOk a) (hb : KeyOk b) (hn : a.key.length = n) (hm : b.key.length = m) (hr : Rd w ra.K (vals .u8 a.key)) (hr' : Rd w rb.K (vals .u8 b.key)) :
    Calls Tryz.prog 120 #[.agg #[.int .i64 (a.pol : Int), .slice ra.K n ra.kc, .int .i64 a.tat, .slice ra.H i ra.hc], .agg #[.int .i64 (b.pol : Int), .slice rb.K m rb.kc, .int .i64 b.tat, .slice rb.H j rb.hc]] w (RetE (.int .i64 (ord a.id b.id)) w) := by
  obtain ⟨W, hW⟩ : ∃ W, ((w.alloc (.cells #[.int .i64 (a.pol : Int), .slice ra.K n ra.kc, .int .i64 a.tat, .slice ra.H i ra.hc] 62)).alloc (.cells #[.int .i64 (b.pol : Int), .slice rb.K m rb.kc, .int .i64 b.tat, .slice rb.H j rb.hc] 62)) = W := ⟨_, rfl⟩
  have xW : Ext w W := by rw [← hW]; exact (((Ext.refl w).alloc _).alloc _)
  obtain ⟨l1, H1⟩ : ∃ l, Hid ((a.pol :: a.key).length = l) := ⟨_, rfl⟩
  obtain ⟨l2, H2⟩ : ∃ l, Hid ((b.pol :: b.key).length = l) := ⟨_, rfl⟩
  have I1 := Lib.hid (fun u (x : Ext W u) => ident_l a.pol ra.K n ra.kc l1 a.key u ha.1 hn (by rw [← hn]; exact ha.2.1) (hr.ext (xW.trans x)) H1.out)
  have I2 := Lib.hid (fun u (x : Ext W u) => ident_l b.pol rb.K m rb.kc l2 b.key u hb.1 hm (by rw [← hm]; exact hb.2.1) (hr'.ext (xW.trans x)) H2.out)
  have Ha := Lib.hid (id_bytes ha); have Hb := Lib.hid (id_bytes hb)
  have K0 := show W.heap[w.heap.size]? = some (.cells #[.int .i64 (a.pol : Int), .slice ra.K n ra.kc, .int .i64 a.tat, .slice ra.H i ra.hc] 62 (0, 0)) by rw [← hW]; exact blk_past (blk_new w _) _
  have K1 := show W.heap[w.heap.size + 1]? = some (.cells #[.int .i64 (b.pol : Int), .slice rb.K m rb.kc, .int .i64 b.tat, .slice rb.H j rb.hc] 62 (0, 0)) by rw [← hW]; exact blk_newk _ _ (by simp)
  have a0 := blk_cell K0 0; have a1 := blk_cell K0 1
  have HK1 := Lib.hid K1; have XW := Lib.hid xW
  clear ha hb hr hr' hn hm xW K0 K1
  go_enter Tryz.func120, Tryz.ntmps120
  go_upto_region 1 with fail
  (try rw [hW])
  clear hW
  go_wp2_with fail
  refine (I1.out W (Ext.refl W)).mono ?_
  rintro e w1 ⟨A1, c1, rfl, o1, x1⟩
  have R1 := Lib.hid o1
  have HK2 := Lib.hid (blk_ext HK1.out x1)
  have b0 := blk_cell HK2.out 0; have b1 := blk_cell HK2.out 1
  have X1 := Lib.hid x1
  clear o1 x1
  go_wp2_with fail
  refine (I2.out w1 X1.out).mono ?_
  rintro e w2 ⟨A2, c2, rfl, o2, x2⟩
  have R2 := Lib.hid o2
  have R1' := Lib.hid (R1.out.ext x2)
  have X2 := Lib.hid x2
  clear o2 x2 a0 a1 b0 b1
  go_wp2_with fail
  refine (order_any A1 A2 l1 c1 l2 c2 a.id b.id w2 H1.out H2.out Ha.out Hb.out R1'.out R2.out).mono ?_
  rintro e w3 ⟨rfl, rfl⟩
  go_wp2_with fail
  go_ret
  exact ⟨rfl, XW.out.trans (X1.out.trans X2.out)⟩
theorem beforeK_lt {l : List PCell} {k : List Nat} {h q : Nat} {e0 e : PCell} (hs : SortedK l) (h0 : l[h]? = some e0) (hlt : ord e0.id k < 0) (hq : q < h) (he : l[q]? = some e) : ord e.id k < 0 := by
  obtain ⟨a, b⟩ := List.getElem?_eq_some_iff.1 he
  obtain ⟨c, d⟩ := List.getElem?_eq_some_iff.1 h0
  have := List.pairwise_iff_getElem.1 hs q h a c hq
  rw [b, d] at this
  exact ord_lt_le this (by omega)
theorem afterK_ge {l : List PCell} {k : List Nat} {h q : Nat} {e0 e : PCell} (hs : SortedK l) (h0 : l[h]? = some e0) (hge : ¬ ord e0.id k < 0) (hq : h ≤ q) (he : l[q]? = some e) : ¬ ord e.id k < 0 := fun hlt => by
  rcases Nat.lt_or_ge h q with h9 | h9
  · exact hge (beforeK_lt hs he hlt h9 h0)
  · have : q = h := by omega
    subst this
    rw [h0] at he
    injection he with he
    subst he
    exact hge hlt
def FindC (l : List PCell) (k : List Nat) (w : World) (e : Ending) (w' : World) : Prop := e = .returned (.tuple #[.int .i64 (atK l k : Int), .bool (hasK l k)]) ∧ Ext w w'
set_option maxRecDepth 100000 in
set_option maxHeartbeats 4000000 in
theorem cbsf_any (w : World) (A : Option Addr) (n c m j : Nat) (l : List PCell) (rs : List CRef) (t : PCell) (rt : CRef) (hl : l.length = n) (hn : n ≤ 5000) (hs : SortedK l) (hok : ∀ e ∈ l, KeyOk e) (hE : CellsRd w A l rs) (hkl : t.key.length = m) (ht : KeyOk t) (hr : Rd w rt.K (vals .u8 t.key)) :
    Calls Tryz.prog 246 #[.slice A n c, .agg #[.int .i64 (t.pol : Int), .slice rt.K m rt.kc, .int .i64 t.tat, .slice rt.H j rt.hc], .func (.func 120) #[] #[]] w (FindC l t.id w) := by
  obtain ⟨k, Hk⟩ : ∃ k, Hid (t.id = k) := ⟨_, rfl⟩
  have Hl := Lib.hid hl; have Hs := Lib.hid hs; have Hok := Lib.hid hok; have HE := Lib.hid hE
  obtain ⟨W, hW⟩ : ∃ W, (w.alloc (.cells #[.int .i64 (t.pol : Int), .slice rt.K m rt.kc, .int .i64 t.tat, .slice rt.H j rt.hc] 62)) = W := ⟨_, rfl⟩
  have xW : Ext w W := by rw [← hW]; exact ((Ext.refl w).alloc _)
  have K0 := Lib.hid (show W.heap[w.heap.size]? = some (.cells #[.int .i64 (t.pol : Int), .slice rt.K m rt.kc, .int .i64 t.tat, .slice rt.H j rt.hc] 62 (0, 0)) by rw [← hW]; exact blk_new w _)
  have OR := Lib.hid (fun u (y : Ext W u) (e : PCell) (re : CRef) (a b : Nat) (h1 : e ∈ l) (h2 : e.key.length = a) (h3 : Rd u re.K (vals .u8 e.key)) => corder_any u e t re rt a m b j (hok e h1) ht h2 hkl h3 ((hr.ext xW).ext y))
  rw [Hk.out] at OR ⊢
  have XW := Lib.hid xW
  clear hl hs hok hE hkl ht hr xW
  go_enter Tryz.func246, Tryz.ntmps246
  go_upto_region 1 with fail
  (try rw [hW])
  clear hW
  go_wp2_with fail
  go_loopw [9, 10] (fun v9 v10 wr => ∃ i j : Nat, v9 = .int .i64 (i : Int) ∧ v10 = .int .i64 (j : Int) ∧ i ≤ j ∧ j ≤ n ∧ Ext W wr ∧ (∀ q e, q < i → l[q]? = some e → ord e.id k < 0) ∧ (∀ q e, j ≤ q → l[q]? = some e → ¬ ord e.id k < 0)) (fun v9 v10 _ => (intOf v10).toNat - (intOf v9).toNat)
  case atStart => exact ⟨0, n, rfl, rfl, Nat.zero_le _, Nat.le_refl _, Ext.refl W, fun q e h => absurd h (Nat.not_lt_zero q), fun q e h he => by have := (List.getElem?_eq_some_iff.1 he).1; have := Hl.out; omega⟩
  case round =>
    obtain ⟨i, jj, rfl, rfl, hij, hjn, hx, h1, h2⟩ := hrel
    have HX := Lib.hid hx; have H1 := Lib.hid h1; have H2 := Lib.hid h2
    have KB := blk_ext K0.out hx
    have b0 := blk_cell KB 0; have b1 := blk_cell KB 1; have b2 := blk_cell KB 2; have b3 := blk_cell KB 3
    clear hx h1 h2 KB
    by_cases hlt : i < jj
    · have hlti : (i : Int) < (jj : Int) := by omega
      obtain ⟨h, Hh⟩ : ∃ h, Hid ((i + jj) / 2 = h) := ⟨_, rfl⟩
      have hh1 : i ≤ h := by have := Hh.out; omega
      have hh2 : h < jj := by have := Hh.out; omega
      have hh3 : h < n := by omega
      have hw1 : IntKind.i64.wrap ((i : Int) + (jj : Int)) = (i : Int) + (jj : Int) := by rw [IntKind.wrap_i64]; omega
      have hw2 : IntKind.u64.wrap ((i : Int) + (jj : Int)) = (i : Int) + (jj : Int) := by rw [IntKind.wrap_u64]; omega
      have hq : ((i : Int) + (jj : Int)) / 2 = (h : Int) := by have := Hh.out; omega
      obtain ⟨e, He⟩ : ∃ e, Hid (l[h]? = some e) := ⟨_, List.getElem?_eq_getElem (by rw [Hl.out]; omega)⟩
      obtain ⟨b, off, r1, hA, hk1, d0, d1, d2, d3, hpr⟩ := (HE.out.ext (XW.out.trans HX.out)).at_ He.out
      have hmem := List.mem_of_getElem? He.out
      obtain ⟨ekl, Hekl⟩ : ∃ m, Hid (e.key.length = m) := ⟨_, rfl⟩
      obtain ⟨ehl, Hehl⟩ : ∃ m, Hid (e.held.length = m) := ⟨_, rfl⟩
      rw [Hekl.out] at d1
      rw [Hehl.out] at d3
      have OR1 := Lib.hid (fun u (y : Ext wr u) => OR.out u (HX.out.trans y) e r1 ekl ehl hmem Hekl.out (hpr.2.1.ext y))
      obtain ⟨ok, Hok2⟩ : ∃ o, Hid (ord e.id k = o) := ⟨_, rfl⟩
      rw [Hok2.out] at OR1
      clear hk1 hpr hmem
      subst hA
      go_upto_region 5 with fail
      clear hq hw1 hw2
      by_cases hxt : ok < 0
      · have h1' : ∀ q e, q < h + 1 → l[q]? = some e → ord e.id k < 0 := fun q e2 hq he => by
          have hxt' : ord e.id k < 0 := by rw [Hok2.out]; exact hxt
          rcases Nat.lt_or_ge q h with h9 | h9
          · exact beforeK_lt Hs.out He.out hxt' (by omega) he
          · have : q = h := by omega
            subst this
            rw [He.out] at he
            injection he with he
            subst he
            exact hxt'
        have H1' := Lib.hid h1'
        clear h1'
        go_region_held3 (fun w' => w'.cell? ⟨b, off + h * 4, none⟩ = some (.int .i64 (e.pol : Int)) ∧ w'.cell? ⟨b, off + h * 4 + 1, none⟩ = some (.slice r1.K ekl r1.kc) ∧ w'.cell? ⟨b, off + h * 4 + 2, none⟩ = some (.int .i64 e.tat) ∧ w'.cell? ⟨b, off + h * 4 + 3, none⟩ = some (.slice r1.H ehl r1.hc) ∧ w'.cell? ⟨w.heap.size, 0, none⟩ = some (.int .i64 (t.pol : Int)) ∧ w'.cell? ⟨w.heap.size, 1, none⟩ = some (.slice rt.K m rt.kc) ∧ w'.cell? ⟨w.heap.size, 2, none⟩ = some (.int .i64 t.tat) ∧ w'.cell? ⟨w.heap.size, 3, none⟩ = some (.slice rt.H j rt.hc))
          (((try go_split_ands); refine ⟨?_, ?_, ?_, ?_, ?_, ?_, ?_, ?_⟩ <;> first | assumption | (with_reducible exact drew_cell d0) | (with_reducible exact td0) | (with_reducible exact drew_cell td0) | (with_reducible exact cell_past td0 _) | (with_reducible exact drew_cell (cell_past d0 _)) | (with_reducible exact drew_cell d1) | (with_reducible exact td1) | (with_reducible exact drew_cell td1) | (with_reducible exact cell_past td1 _) | (with_reducible exact drew_cell (cell_past d1 _)) | (with_reducible exact drew_cell d2) | (with_reducible exact td2) | (with_reducible exact drew_cell td2) | (with_reducible exact cell_past td2 _) | (with_reducible exact drew_cell (cell_past d2 _)) | (with_reducible exact drew_cell d3) | (with_reducible exact td3) | (with_reducible exact drew_cell td3) | (with_reducible exact cell_past td3 _) | (with_reducible exact drew_cell (cell_past d3 _)) | (with_reducible exact drew_cell b0) | (with_reducible exact tb0) | (with_reducible exact drew_cell tb0) | (with_reducible exact cell_past tb0 _) | (with_reducible exact drew_cell (cell_past b0 _)) | (with_reducible exact drew_cell b1) | (with_reducible exact tb1) | (with_reducible exact drew_cell tb1) | (with_reducible exact cell_past tb1 _) | (with_reducible exact drew_cell (cell_past b1 _)) | (with_reducible exact drew_cell b2) | (with_reducible exact tb2) | (with_reducible exact drew_cell tb2) | (with_reducible exact cell_past tb2 _) | (with_reducible exact drew_cell (cell_past b2 _)) | (with_reducible exact drew_cell b3) | (with_reducible exact tb3) | (with_reducible exact drew_cell tb3) | (with_reducible exact cell_past tb3 _) | (with_reducible exact drew_cell (cell_past b3 _))))
          ((go_at_call 120; (with_reducible refine (OR1.out wr.drew (Ext.refl wr).drew).mono ?_); rintro e9 w9 ⟨rfl, hy⟩; have HY := Lib.hid ((Ext.refl wr).drew.trans hy); have td0 := ext_cell (HY.out) d0; have td1 := ext_cell (HY.out) d1; have td2 := ext_cell (HY.out) d2; have td3 := ext_cell (HY.out) d3; have tb0 := ext_cell (HY.out) b0; have tb1 := ext_cell (HY.out) b1; have tb2 := ext_cell (HY.out) b2; have tb3 := ext_cell (HY.out) b3; clear hy))
        all_goals
          go_wp2_with fail
          go_roundw
          case rel => exact ⟨h + 1, jj, by go_num, rfl, by omega, by omega, HX.out.trans HY.out, H1'.out, fun q e hq he => Int.not_lt.2 (H2.out q e hq he)⟩
          case measure => simp [intOf]; omega
      · have h2' : ∀ q e, h ≤ q → l[q]? = some e → ¬ ord e.id k < 0 := fun q e2 hq he => afterK_ge Hs.out He.out (by rw [Hok2.out]; exact hxt) hq he
        have H2' := Lib.hid h2'
        clear h2'
        go_region_held3 (fun w' => w'.cell? ⟨b, off + h * 4, none⟩ = some (.int .i64 (e.pol : Int)) ∧ w'.cell? ⟨b, off + h * 4 + 1, none⟩ = some (.slice r1.K ekl r1.kc) ∧ w'.cell? ⟨b, off + h * 4 + 2, none⟩ = some (.int .i64 e.tat) ∧ w'.cell? ⟨b, off + h * 4 + 3, none⟩ = some (.slice r1.H ehl r1.hc) ∧ w'.cell? ⟨w.heap.size, 0, none⟩ = some (.int .i64 (t.pol : Int)) ∧ w'.cell? ⟨w.heap.size, 1, none⟩ = some (.slice rt.K m rt.kc) ∧ w'.cell? ⟨w.heap.size, 2, none⟩ = some (.int .i64 t.tat) ∧ w'.cell? ⟨w.heap.size, 3, none⟩ = some (.slice rt.H j rt.hc))
          (((try go_split_ands); refine ⟨?_, ?_, ?_, ?_, ?_, ?_, ?_, ?_⟩ <;> first | assumption | (with_reducible exact drew_cell d0) | (with_reducible exact td0) | (with_reducible exact drew_cell td0) | (with_reducible exact cell_past td0 _) | (with_reducible exact drew_cell (cell_past d0 _)) | (with_reducible exact drew_cell d1) | (with_reducible exact td1) | (with_reducible exact drew_cell td1) | (with_reducible exact cell_past td1 _) | (with_reducible exact drew_cell (cell_past d1 _)) | (with_reducible exact drew_cell d2) | (with_reducible exact td2) | (with_reducible exact drew_cell td2) | (with_reducible exact cell_past td2 _) | (with_reducible exact drew_cell (cell_past d2 _)) | (with_reducible exact drew_cell d3) | (with_reducible exact td3) | (with_reducible exact drew_cell td3) | (with_reducible exact cell_past td3 _) | (with_reducible exact drew_cell (cell_past d3 _)) | (with_reducible exact drew_cell b0) | (with_reducible exact tb0) | (with_reducible exact drew_cell tb0) | (with_reducible exact cell_past tb0 _) | (with_reducible exact drew_cell (cell_past b0 _)) | (with_reducible exact drew_cell b1) | (with_reducible exact tb1) | (with_reducible exact drew_cell tb1) | (with_reducible exact cell_past tb1 _) | (with_reducible exact drew_cell (cell_past b1 _)) | (with_reducible exact drew_cell b2) | (with_reducible exact tb2) | (with_reducible exact drew_cell tb2) | (with_reducible exact cell_past tb2 _) | (with_reducible exact drew_cell (cell_past b2 _)) | (with_reducible exact drew_cell b3) | (with_reducible exact tb3) | (with_reducible exact drew_cell tb3) | (with_reducible exact cell_past tb3 _) | (with_reducible exact drew_cell (cell_past b3 _))))
          ((go_at_call 120; (with_reducible refine (OR1.out wr.drew (Ext.refl wr).drew).mono ?_); rintro e9 w9 ⟨rfl, hy⟩; have HY := Lib.hid ((Ext.refl wr).drew.trans hy); have td0 := ext_cell (HY.out) d0; have td1 := ext_cell (HY.out) d1; have td2 := ext_cell (HY.out) d2; have td3 := ext_cell (HY.out) d3; have tb0 := ext_cell (HY.out) b0; have tb1 := ext_cell (HY.out) b1; have tb2 := ext_cell (HY.out) b2; have tb3 := ext_cell (HY.out) b3; clear hy))
        all_goals
          go_wp2_with fail
          go_roundw
          case rel => exact ⟨i, h, rfl, rfl, by omega, by omega, HX.out.trans HY.out, H1.out, fun q e hq he => Int.not_lt.2 (H2'.out q e hq he)⟩
          case measure => simp [intOf]; omega
    · obtain rfl : i = jj := by omega
      have Hat := Lib.hid (atK_eq Hs.out (by rw [Hl.out]; omega) H1.out H2.out)
      by_cases hlt2 : i < n
      · have hlt2i : (i : Int) < (n : Int) := by omega
        obtain ⟨e, He⟩ : ∃ e, Hid (l[i]? = some e) := ⟨_, List.getElem?_eq_getElem (by rw [Hl.out]; omega)⟩
        obtain ⟨b, off, r1, hA, hk1, d0, d1, d2, d3, hpr⟩ := (HE.out.ext (XW.out.trans HX.out)).at_ He.out
        have hmem := List.mem_of_getElem? He.out
        obtain ⟨hb, Hb⟩ : ∃ hb : Bool, Hid (hasK l k = hb) := ⟨_, rfl⟩
        have Hho := Lib.hid (hasK_ord (l := l) (k := k) (by rw [← Hat.out]; exact He.out))
        obtain ⟨ekl, Hekl⟩ : ∃ m, Hid (e.key.length = m) := ⟨_, rfl⟩
        obtain ⟨ehl, Hehl⟩ : ∃ m, Hid (e.held.length = m) := ⟨_, rfl⟩
        rw [Hekl.out] at d1
        rw [Hehl.out] at d3
        have OR1 := Lib.hid (fun u (y : Ext wr u) => OR.out u (HX.out.trans y) e r1 ekl ehl hmem Hekl.out (hpr.2.1.ext y))
        have hEq : (ord e.id k == 0) = hb := by
          have h9 := Hho.out
          rw [Hb.out] at h9
          rw [h9]
          by_cases h0 : ord e.id k = 0
          · rw [decide_eq_true h0]; simp [h0]
          · rw [decide_eq_false h0]; simp [h0]
        obtain ⟨ok, Hok2⟩ : ∃ o, Hid (ord e.id k = o) := ⟨_, rfl⟩
        rw [Hok2.out] at OR1 hEq
        clear hk1 hpr hmem
        subst hA
        go_upto_region 8 with fail
        go_region_held3 (fun w' => w'.cell? ⟨b, off + i * 4, none⟩ = some (.int .i64 (e.pol : Int)) ∧ w'.cell? ⟨b, off + i * 4 + 1, none⟩ = some (.slice r1.K ekl r1.kc) ∧ w'.cell? ⟨b, off + i * 4 + 2, none⟩ = some (.int .i64 e.tat) ∧ w'.cell? ⟨b, off + i * 4 + 3, none⟩ = some (.slice r1.H ehl r1.hc) ∧ w'.cell? ⟨w.heap.size, 0, none⟩ = some (.int .i64 (t.pol : Int)) ∧ w'.cell? ⟨w.heap.size, 1, none⟩ = some (.slice rt.K m rt.kc) ∧ w'.cell? ⟨w.heap.size, 2, none⟩ = some (.int .i64 t.tat) ∧ w'.cell? ⟨w.heap.size, 3, none⟩ = some (.slice rt.H j rt.hc))
          (((try go_split_ands); refine ⟨?_, ?_, ?_, ?_, ?_, ?_, ?_, ?_⟩ <;> first | assumption | (with_reducible exact drew_cell d0) | (with_reducible exact td0) | (with_reducible exact drew_cell td0) | (with_reducible exact cell_past td0 _) | (with_reducible exact drew_cell (cell_past d0 _)) | (with_reducible exact drew_cell d1) | (with_reducible exact td1) | (with_reducible exact drew_cell td1) | (with_reducible exact cell_past td1 _) | (with_reducible exact drew_cell (cell_past d1 _)) | (with_reducible exact drew_cell d2) | (with_reducible exact td2) | (with_reducible exact drew_cell td2) | (with_reducible exact cell_past td2 _) | (with_reducible exact drew_cell (cell_past d2 _)) | (with_reducible exact drew_cell d3) | (with_reducible exact td3) | (with_reducible exact drew_cell td3) | (with_reducible exact cell_past td3 _) | (with_reducible exact drew_cell (cell_past d3 _)) | (with_reducible exact drew_cell b0) | (with_reducible exact tb0) | (with_reducible exact drew_cell tb0) | (with_reducible exact cell_past tb0 _) | (with_reducible exact drew_cell (cell_past b0 _)) | (with_reducible exact drew_cell b1) | (with_reducible exact tb1) | (with_reducible exact drew_cell tb1) | (with_reducible exact cell_past tb1 _) | (with_reducible exact drew_cell (cell_past b1 _)) | (with_reducible exact drew_cell b2) | (with_reducible exact tb2) | (with_reducible exact drew_cell tb2) | (with_reducible exact cell_past tb2 _) | (with_reducible exact drew_cell (cell_past b2 _)) | (with_reducible exact drew_cell b3) | (with_reducible exact tb3) | (with_reducible exact drew_cell tb3) | (with_reducible exact cell_past tb3 _) | (with_reducible exact drew_cell (cell_past b3 _))))
          ((go_at_call 120; (with_reducible refine (OR1.out wr.drew (Ext.refl wr).drew).mono ?_); rintro e9 w9 ⟨rfl, hy⟩; have HY := Lib.hid ((Ext.refl wr).drew.trans hy); have td0 := ext_cell (HY.out) d0; have td1 := ext_cell (HY.out) d1; have td2 := ext_cell (HY.out) d2; have td3 := ext_cell (HY.out) d3; have tb0 := ext_cell (HY.out) b0; have tb1 := ext_cell (HY.out) b1; have tb2 := ext_cell (HY.out) b2; have tb3 := ext_cell (HY.out) b3; clear hy))
        all_goals
          go_wp2_with fail
          go_ret2
          exact ⟨ret_t2 (by rw [← Hat.out]; rfl) (bool_eq (by rw [Hb.out])), XW.out.trans (HX.out.trans HY.out)⟩
      · have hlt2i : ¬ (i : Int) < (n : Int) := by omega
        have Hnone := Lib.hid (hasK_none (l := l) (k := k) (by rw [← Hat.out, Hl.out]; exact hlt2))
        have hd : decide ((i : Int) < (n : Int)) = false := decide_eq_false hlt2i
        go_upto_region 8 with fail
        go_quiet (fail)
        go_wp2_with fail
        go_ret2
        exact ⟨ret_t2 (by rw [← Hat.out]; rfl) (bool_eq Hnone.out.symm), XW.out.trans (HX.out.trans ((Ext.refl wr).drewN _))⟩
end

section
open Go.RowKit

theorem results_2tmp_cell {fn : Func} {p u v : Tmp} {ty : TypeId} (h : fn.results = #[.tmp u, .tmp v, .cell p ty]) (tmps : Array Value) (P : Program) (w : World) :
    (results fn tmps).run P w = ((asAddr (tmps.getD p undef)).run P w).andThen fun a w => ((loadVar ty a).run P w).andThen fun x w => .ok (.tuple #[tmps.getD u undef, tmps.getD v undef, x]) w := by
  simp [results, h, Result.andThen]
theorem results_2tmp_row {P : Program} {fn : Func} {p u v : Tmp} {ty : TypeId} (h : fn.results = #[.tmp u, .tmp v, .cell p ty]) (tmps : Array Value) (w : World) (g : Nat) (t : TypeId) (cs : Array Value) (fr : Nat × Nat) (d : TypeDesc)
    (hp : tmps.getD p undef = .pointer (some ⟨g, 0, none⟩)) (hg : w.heap[g]? = some (.cells cs t fr))
    (hu : P.underlying ty = some d) (hd : (match d with | .struct _ | .array _ _ => true | _ => false) = true) (hi : (P.info? ty).map (·.size) = some cs.size) :
    (results fn tmps).run P w = .ok (.tuple #[tmps.getD u undef, tmps.getD v undef, .agg cs]) w := by
  rw [results_2tmp_cell h, hp]
  simp [asAddr, run_loadVar_row w g t ty cs fr d hg hu hd hi, Result.andThen]
theorem blk_drew {w : World} {g : Nat} {o : Obj} (h : w.heap[g]? = some o) : w.drew.heap[g]? = some o := h
theorem ext4 {w w2 : World} {g : Nat} (h : Ext w w2) (hg : w.heap.size ≤ g) (a b c d : Value) : Ext w ((((w2.setCell ⟨g, 0, none⟩ a).setCell ⟨g, 1, none⟩ b).setCell ⟨g, 2, none⟩ c).setCell ⟨g, 3, none⟩ d) := by
  have h0 := grown_set w2 g 0 a
  have h1 := grown_setCell h0 1 b
  have h2 := grown_setCell h1 2 c
  exact ext_grown h (grown_setCell h2 3 d) hg
/-- what Find answers: where, whether, the cell, its parts frozen -/
def BFindR (X : Nat → Prop) (at_ : Nat) (has : Bool) (ce : PCell) (w : World) (e : Ending) (w' : World) : Prop :=
  ∃ r, e = .returned (.tuple #[.int .i64 (at_ : Int), .bool has, .agg #[.int .i64 (ce.pol : Int), .slice r.K ce.key.length r.kc, .int .i64 ce.tat, .slice r.H ce.held.length r.hc]]) ∧ PartsF w' X r ce ∧ Ext w w'
set_option maxHeartbeats 2000000 in
theorem bfind_any (w : World) (X : Nat → Prop) (A K : Option Addr) (n c m kc : Nat) (l : List PCell) (rs : List CRef) (pol : Nat) (key : List Nat) (hl : l.length = n) (hn : n ≤ 5000) (hs : SortedK l) (hok : ∀ e ∈ l, KeyOk e) (hE : CellsF w X A l rs) (hk : key.length = m) (hkc : m ≤ kc) (ht : KeyOk ⟨pol, key, 0, []⟩) (hr : Rd w K (vals .u8 key)) (hf : Fz w X K) :
    Calls Tryz.prog 191 #[.slice A n c, .int .i64 (pol : Int), .slice K m kc] w (BFindR X (atK l (pol :: key)) (hasK l (pol :: key)) (cellK l pol key) w) := by
  obtain ⟨W, hW⟩ : ∃ W, ((w.alloc (.cells #[.int .i64 0, .slice none 0 0, .int .i64 0, .slice none 0 0] 62)).alloc (.cells #[.int .i64 (pol : Int), .slice K m kc, .int .i64 0, .slice none 0 0] 62)) = W := ⟨_, rfl⟩
  have xW : Ext w W := by rw [← hW]; exact (((Ext.refl w).alloc _).alloc _)
  have K0 := Lib.hid (show W.heap[w.heap.size]? = some (.cells #[.int .i64 0, .slice none 0 0, .int .i64 0, .slice none 0 0] 62 (0, 0)) by rw [← hW]; exact blk_past (blk_new w _) _)
  have K1 := Lib.hid (show W.heap[w.heap.size + 1]? = some (.cells #[.int .i64 (pol : Int), .slice K m kc, .int .i64 0, .slice none 0 0] 62 (0, 0)) by rw [← hW]; exact blk_newk _ _ (by simp))
  have BS := Lib.hid (cbsf_any W A n c m 0 l rs ⟨pol, key, 0, []⟩ ⟨K, kc, none, 0⟩ hl hn hs hok (hE.1.ext xW) hk ht (hr.ext xW))
  obtain ⟨k, Hk⟩ : ∃ k, Hid (pol :: key = k) := ⟨_, rfl⟩
  have Hidk : (⟨pol, key, 0, []⟩ : PCell).id = k := Hk.out
  rw [Hidk] at BS
  rw [Hk.out]
  obtain ⟨at_, Hat⟩ : ∃ a, Hid (atK l k = a) := ⟨_, rfl⟩
  unfold FindC at BS
  rw [Hat.out] at BS ⊢
  have HE := Lib.hid hE; have Hkey := Lib.hid hk; have Hr := Lib.hid hr; have Hf := Lib.hid hf; have XW := Lib.hid xW
  have Hl := Lib.hid hl; have HW := Lib.hid hW
  clear hW
  cases hh : hasK l k with
  | true =>
    obtain ⟨ce, hce, e1, e2, e3⟩ := cellK_has (l := l) (pol := pol) (key := key) (by rw [Hk.out]; exact hh)
    rw [Hk.out, Hat.out] at hce
    have Hce := Lib.hid hce
    rw [hh] at BS
    rw [e3]
    have hlt : at_ < n := by rw [← hl]; exact (List.getElem?_eq_some_iff.1 hce).1
    clear hE hk hr hf ht hl hs hok Hidk hh xW e1 e2 e3 hce
    have b0 := blk_cell K1.out 0; have b1 := blk_cell K1.out 1; have b2 := blk_cell K1.out 2; have b3 := blk_cell K1.out 3
    go_enter Tryz.func191, Tryz.ntmps191
    go_upto_region 2 with fail
    (try rw [HW.out])
    clear HW
    go_wp2_with fail
    refine BS.out.mono ?_
    rintro e w1 ⟨rfl, hx⟩
    have HX := Lib.hid hx
    have KR := Lib.hid (blk_ext K0.out hx); have KC := Lib.hid (blk_ext K1.out hx)
    clear b0 b1 b2 b3 hx
    have b0 := blk_cell KC.out 0; have b1 := blk_cell KC.out 1; have b2 := blk_cell KC.out 2; have b3 := blk_cell KC.out 3
    have y0 := blk_frozen KC.out 0; have y1 := blk_frozen KC.out 1; have y2 := blk_frozen KC.out 2; have y3 := blk_frozen KC.out 3
    have r0 := blk_cell KR.out 0; have r1 := blk_cell KR.out 1; have r2 := blk_cell KR.out 2; have r3 := blk_cell KR.out 3
    have z0 := blk_frozen KR.out 0; have z1 := blk_frozen KR.out 1; have z2 := blk_frozen KR.out 2; have z3 := blk_frozen KR.out 3
    have HE1 := Lib.hid (HE.out.ext (XW.out.trans HX.out))
    obtain ⟨b, off, r9, hA, hk1, d0, d1, d2, d3, hpr⟩ := HE1.out.1.at_ Hce.out
    clear hpr
    have Hk1 := Lib.hid hk1
    subst hA
    clear hk1
    go_wp2_with fail
    go_region
    go_wp2_with fail
    have xF : Ext w w1 := XW.out.trans HX.out
    have x2 := ext4 (ext4 xF (Nat.le_succ w.heap.size) (.int .i64 (ce.pol : Int)) (.slice r9.K ce.key.length r9.kc) (.int .i64 ce.tat) (.slice r9.H ce.held.length r9.hc)) (Nat.le_refl w.heap.size) (.int .i64 (ce.pol : Int)) (.slice r9.K ce.key.length r9.kc) (.int .i64 ce.tat) (.slice r9.H ce.held.length r9.hc)
    have KF := row4 (blk_grown (blk_grown (blk_grown (blk_grown KR.out (grown_set _ (w.heap.size + 1) 0 (.int .i64 (ce.pol : Int))) (by omega)) (grown_set _ (w.heap.size + 1) 1 (.slice r9.K ce.key.length r9.kc)) (by omega)) (grown_set _ (w.heap.size + 1) 2 (.int .i64 ce.tat)) (by omega)) (grown_set _ (w.heap.size + 1) 3 (.slice r9.H ce.held.length r9.hc)) (by omega)) (.int .i64 (ce.pol : Int)) (.slice r9.K ce.key.length r9.kc) (.int .i64 ce.tat) (.slice r9.H ce.held.length r9.hc)
    refine bodyPost_ret (results_2tmp_row (p := 8) (u := 6) (v := 7) rfl _ _ w.heap.size _ #[.int .i64 (ce.pol : Int), .slice r9.K ce.key.length r9.kc, .int .i64 ce.tat, .slice r9.H ce.held.length r9.hc] (0, 0) _ rfl (blk_drew KF) Tryz.underlying62 (by rfl) (by kernel_rfl)) rfl ?_
    exact ⟨r9, rfl, (HE.out.part Hk1.out Hce.out).ext x2.drew, x2.drew⟩
  | false =>
    have e9 := cellK_new (l := l) (pol := pol) (key := key) (by rw [Hk.out]; exact hh)
    rw [hh] at BS
    rw [e9]
    have HP := Lib.hid (show PartsF w X ⟨K, kc, none, 0⟩ ⟨pol, key, 0, []⟩ from ⟨⟨by rw [hk]; exact hkc, hr, Nat.le_refl _, Rd.nil _ _⟩, hf, Fz.nil⟩)
    clear hE hk hr hf ht hl hs hok Hidk hh xW e9
    have b0 := blk_cell K1.out 0; have b1 := blk_cell K1.out 1; have b2 := blk_cell K1.out 2; have b3 := blk_cell K1.out 3
    go_enter Tryz.func191, Tryz.ntmps191
    go_upto_region 2 with fail
    (try rw [HW.out])
    clear HW
    go_wp2_with fail
    refine BS.out.mono ?_
    rintro e w1 ⟨rfl, hx⟩
    have HX := Lib.hid hx
    have KR := Lib.hid (blk_ext K0.out hx); have KC := Lib.hid (blk_ext K1.out hx)
    clear b0 b1 b2 b3 hx
    have b0 := blk_cell KC.out 0; have b1 := blk_cell KC.out 1; have b2 := blk_cell KC.out 2; have b3 := blk_cell KC.out 3
    have r0 := blk_cell KR.out 0; have r1 := blk_cell KR.out 1; have r2 := blk_cell KR.out 2; have r3 := blk_cell KR.out 3
    have z0 := blk_frozen KR.out 0; have z1 := blk_frozen KR.out 1; have z2 := blk_frozen KR.out 2; have z3 := blk_frozen KR.out 3
    go_wp2_with fail
    go_region
    go_wp2_with fail
    have xF : Ext w w1 := XW.out.trans HX.out
    have x2 := ext4 xF (Nat.le_refl w.heap.size) (.int .i64 (pol : Int)) (.slice K m kc) (.int .i64 0) (.slice none 0 0)
    have KF := row4 KR.out (.int .i64 (pol : Int)) (.slice K m kc) (.int .i64 0) (.slice none 0 0)
    refine bodyPost_ret (results_2tmp_row (p := 8) (u := 6) (v := 7) rfl _ _ w.heap.size _ #[.int .i64 (pol : Int), .slice K m kc, .int .i64 0, .slice none 0 0] (0, 0) _ rfl (blk_drew KF) Tryz.underlying62 (by rfl) (by kernel_rfl)) rfl ?_
    refine ⟨⟨K, kc, none, 0⟩, ?_, HP.out.ext x2.drew, x2.drew⟩
    rw [← Hkey.out]
    rfl
end

section
open Go.RowKit

theorem own_sub {w : World} {base : Nat} {e : TypeId} {A : Option Addr} {n c : Nat} {xs : List Value} (h : w.ownsRow base e 1 (.slice A n c) n xs) {k : Nat} (hk : k ≤ n) : w.ownsRow base e 1 (.slice A k c) k (xs.take k) := by
  obtain ⟨hl, h⟩ := h
  refine ⟨by simp; omega, ?_⟩
  rcases h with ⟨h1, h2⟩ | ⟨g, cap, cur, h1, hb, hg, hnc, hcm, hcs, ht⟩
  · injection h1 with h1 h3 h4
    left
    exact ⟨by rw [h1, h4, show k = 0 by omega], by omega⟩
  · injection h1 with h1 h3 h4
    right
    refine ⟨g, cap, cur, by rw [h1, h4], hb, hg, by omega, hcm, hcs, ?_⟩
    rw [← ht, List.take_take]
    congr 1
    omega
theorem own_more {w : World} {base : Nat} {e : TypeId} {g n c : Nat} {xs : List Value} (h : w.ownsRow base e 1 (.slice (some ⟨g, 0, none⟩) n c) n xs) (hc : n < c) : ∃ u, w.ownsRow base e 1 (.slice (some ⟨g, 0, none⟩) (n + 1) c) (n + 1) (xs ++ [u]) := by
  obtain ⟨hl, h⟩ := h
  rcases h with ⟨h1, h2⟩ | ⟨g', cap, cur, h1, hb, hg, hnc, hcm, hcs, ht⟩
  · injection h1 with h1; cases h1
  · injection h1 with h1 h3 h4
    injection h1 with h1
    injection h1 with h1
    subst h1 h4
    have hn : n < cur.toList.length := by simp [hcs]; omega
    refine ⟨cur.toList[n], by simp; omega, .inr ⟨g, c, cur, rfl, hb, hg, by omega, hcm, hcs, ?_⟩⟩
    rw [Nat.mul_one] at ht ⊢
    rw [take_succ_of (List.getElem?_eq_getElem hn), ht]
/-- values laid one behind the other -/
def putAt (xs : List Value) : Nat → List Value → List Value
  | _, [] => xs
  | k, y :: ys => putAt (xs.set k y) (k + 1) ys
theorem putAt_eq : ∀ (ys xs : List Value) (k : Nat), k + ys.length ≤ xs.length → putAt xs k ys = xs.take k ++ (ys ++ xs.drop (k + ys.length))
  | [], xs, k, _ => by simp [putAt]
  | y :: ys, xs, k, h => by
    rw [List.length_cons] at h
    rw [putAt, putAt_eq ys (xs.set k y) (k + 1) (by simp; omega)]
    have h1 : (xs.set k y).take (k + 1) = xs.take k ++ [y] := by
      rw [take_succ_of (x := y) (by rw [List.getElem?_set_self (by omega)]), List.take_set_of_le (by omega)]
    have h2 : (xs.set k y).drop (k + 1 + ys.length) = xs.drop (k + (ys.length + 1)) := by
      rw [List.drop_set_of_lt (by omega)]
      congr 1
      omega
    rw [h1, h2]
    simp
theorem own_put {base : Nat} {e : TypeId} {g n c : Nat} : ∀ (ys : List Value) (w : World) (xs : List Value) (k : Nat), w.ownsRow base e 1 (.slice (some ⟨g, 0, none⟩) n c) n xs →
    (w.setCells g k ys).ownsRow base e 1 (.slice (some ⟨g, 0, none⟩) n c) n (putAt xs k ys) ∧ w.grownBy (w.setCells g k ys) (some g)
  | [], w, xs, k, h => ⟨h, World.grownBy.refl w _⟩
  | y :: ys, w, xs, k, h => by
    obtain ⟨h1, h2⟩ := h.stored k y
    obtain ⟨h3, h4⟩ := own_put ys _ _ (k + 1) h1
    exact ⟨h3, World.grown_trans h2 h4⟩
theorem own_some {w : World} {base : Nat} {e : TypeId} {A : Option Addr} {n c : Nat} {xs : List Value} (h : w.ownsRow base e 1 (.slice A n c) n xs) (hc : 0 < c) : ∃ g, A = some ⟨g, 0, none⟩ ∧ base ≤ g ∧ g < w.heap.size := by
  rcases h.2 with ⟨h1, h2⟩ | ⟨g, cap, cur, h1, hb, hg, _⟩
  · injection h1 with h1 h3 h4; omega
  · injection h1 with h1
    exact ⟨g, h1, hb, (Array.getElem?_eq_some_iff.1 hg).1⟩
end

section
open Go.RowKit

theorem own_sub_s {w : World} {base s : Nat} {e : TypeId} {A : Option Addr} {n c : Nat} {xs : List Value} (h : w.ownsRow base e s (.slice A n c) n xs) {k : Nat} (hk : k ≤ n) : w.ownsRow base e s (.slice A k c) k (xs.take (k * s)) := by
  obtain ⟨hl, h⟩ := h
  have hks : k * s ≤ n * s := Nat.mul_le_mul_right s hk
  refine ⟨by rw [List.length_take]; omega, ?_⟩
  rcases h with ⟨h1, h2⟩ | ⟨g, cap, cur, h1, hb, hg, hnc, hcm, hcs, ht⟩
  · injection h1 with h1 h3 h4
    left
    exact ⟨by rw [h1, h4, show k = 0 by omega], by omega⟩
  · injection h1 with h1 h3 h4
    right
    refine ⟨g, cap, cur, by rw [h1, h4], hb, hg, by omega, hcm, hcs, ?_⟩
    rw [← ht, List.take_take, Nat.min_eq_left hks]
theorem own_more_s {w : World} {base s : Nat} {e : TypeId} {g n c : Nat} {xs : List Value} (h : w.ownsRow base e s (.slice (some ⟨g, 0, none⟩) n c) n xs) (hc : n < c) : ∃ us, us.length = s ∧ w.ownsRow base e s (.slice (some ⟨g, 0, none⟩) (n + 1) c) (n + 1) (xs ++ us) := by
  obtain ⟨hl, h⟩ := h
  rcases h with ⟨h1, h2⟩ | ⟨g', cap, cur, h1, hb, hg, hnc, hcm, hcs, ht⟩
  · injection h1 with h1; cases h1
  · injection h1 with h1 h3 h4
    injection h1 with h1
    injection h1 with h1
    subst h1 h4
    have hm : (n + 1) * s ≤ c * s := Nat.mul_le_mul_right s (by omega)
    rw [Nat.add_mul, Nat.one_mul] at hm
    have hsz : cur.toList.length = c * s := by simpa using hcs
    refine ⟨(cur.toList.drop (n * s)).take s, by rw [List.length_take, List.length_drop]; omega, ?_, .inr ⟨g, c, cur, rfl, hb, hg, by omega, hcm, hcs, ?_⟩⟩
    · rw [List.length_append, hl, List.length_take, List.length_drop, Nat.add_mul, Nat.one_mul]; omega
    · rw [← ht, Nat.add_mul, Nat.one_mul, List.take_add]
theorem own_put_s {base s : Nat} {e : TypeId} {g n c : Nat} : ∀ (ys : List Value) (w : World) (xs : List Value) (k : Nat), w.ownsRow base e s (.slice (some ⟨g, 0, none⟩) n c) n xs →
    (w.setCells g k ys).ownsRow base e s (.slice (some ⟨g, 0, none⟩) n c) n (putAt xs k ys) ∧ w.grownBy (w.setCells g k ys) (some g)
  | [], w, xs, k, h => ⟨h, World.grownBy.refl w _⟩
  | y :: ys, w, xs, k, h => by
    obtain ⟨h1, h2⟩ := h.stored k y
    obtain ⟨h3, h4⟩ := own_put_s ys _ _ (k + 1) h1
    exact ⟨h3, World.grown_trans h2 h4⟩
theorem own_some_s {w : World} {base s : Nat} {e : TypeId} {A : Option Addr} {n c : Nat} {xs : List Value} (h : w.ownsRow base e s (.slice A n c) n xs) (hc : 0 < c) : ∃ g, A = some ⟨g, 0, none⟩ ∧ base ≤ g ∧ g < w.heap.size := by
  rcases h.2 with ⟨h1, h2⟩ | ⟨g, cap, cur, h1, hb, hg, _⟩
  · injection h1 with h1 h3 h4; omega
  · injection h1 with h1
    exact ⟨g, h1, hb, (Array.getElem?_eq_some_iff.1 hg).1⟩
variable {P : Program}
theorem run_copy_cells_s (w : World) (dT sT ty elem : TypeId) (s : Nat) (b o dLen dCap : Nat) (a : Addr) (sLen sCap m : Nat) (cs : List Value)
    (hu : P.underlying dT = some (.slice elem)) (hs : (P.info? elem).map (·.size) = some s) (hm : m = Nat.min sLen dLen) (hn : cs.length = m * s)
    (hsrc : ∀ j v, cs[j]? = some v → w.cell? (a.add j) = some v) (hc : ∀ j, j < cs.length → (w.cell? ⟨b, o + j, none⟩).isSome = true) (hf : ∀ j, j < cs.length → w.frozen? ⟨b, o + j, none⟩ = false) (h1 : ∀ v ∈ cs, v.oneCell' = true) :
    (Builtin.copy_ #[dT, sT] ty #[.slice (some ⟨b, o, none⟩) dLen dCap, .slice (some a) sLen sCap]).run P w = .ok (goInt m) (w.setCells b o cs) := by
  have hl := run_loadCells_list (P := P) w a cs hsrc
  have hst := run_storeCells_cells (P := P) b o cs 0 w (by simpa using hc) (by simpa using hf) h1
  cases hq : P.info? elem with
  | none => simp [hq] at hs
  | some i =>
    have hi : i.size = s := by simpa [hq] using hs
    subst hm
    simp [Builtin.copy_, run_underlying hu, Builtin.lenOf, Builtin.firstCells, sizeOf, typeInfo, hq, hi, ← hn, hl, hst]
theorem run_clear_cells_s (w : World) (t e ty : TypeId) (z : Value) (zs : List Value) (ht : P.underlying t = some (.slice e)) (hv : ∀ w, (zeroValue e).run P w = .ok z w) (b o n c : Nat) (hn : 0 < n) (hz : (Builtin.zeroCells z.cells n).toList = zs) (h1 : ∀ v ∈ zs, v.oneCell' = true)
    (hc : ∀ j, j < zs.length → (w.cell? ⟨b, o + j, none⟩).isSome = true) (hf : ∀ j, j < zs.length → w.frozen? ⟨b, o + j, none⟩ = false) :
    (Builtin.clear_ #[t] ty #[.slice (some ⟨b, o, none⟩) n c]).run P w = .ok (.tuple #[]) (w.setCells b o zs) := by
  have hst := run_storeCells_cells (P := P) b o zs 0 w (by simpa using hc) (by simpa using hf) h1
  simp only [Nat.add_zero] at hst
  obtain ⟨m, rfl⟩ : ∃ m, n = m + 1 := ⟨n - 1, by omega⟩
  simp [Builtin.clear_, run_underlying ht, hv, hz, hst]
/-- elements laid in at k -/
def insF (s : Nat) (xs : List Value) (k : Nat) (news : List Value) : List Value := xs.take (k * s) ++ (news ++ xs.drop (k * s))
def delF (s : Nat) (xs : List Value) (k : Nat) : List Value := xs.take (k * s) ++ xs.drop (k * s + s)
end

section
open Go.RowKit

theorem ce_info : (Tryz.prog.info? 62).map (fun i => (i.zero, i.size, i.bytes)) = some (some (.agg #[.int .i64 0, .slice none 0 0, .int .i64 0, .slice none 0 0]), 4, 64) := by kernel_rfl
theorem ce_size : ∀ u : World, (sizeOf 62).run Tryz.prog u = .ok 4 u := fun _ => by kernel_rfl
theorem ce_info1 : (Tryz.prog.info? 62).map (·.size) = some 4 := by kernel_rfl
/-- append onto a row of one's own -/
theorem ce_app {ops : Array Oper} {rest : List Oper} {o : Oper} {a : Act} {Q : Exit → Act → World → Prop} (w : World) (hgd : o.guard = none) (s x : Operand)
    (ho : o.op = .call { callee := .builtin .append, args := #[s, x], argTypes := #[56, 56] })
    (base : Nat) {B : Option Addr} {n cb : Nat} {xs : List Value} (hs : a.eval s = .slice B n cb) (hown : w.ownsRow base 62 4 (.slice B n cb) n xs)
    {A : Option Addr} {m c : Nat} {news : List Value} (hx : a.eval x = .slice A m c) (hl : news.length = m * 4) (hr : Rd w A news) (h1 : ∀ u ∈ news, u.oneCell' = true) (hb : n + m ≤ 1000000) (hbase : base ≤ w.heap.size)
    (h : ∀ B' cb' w', w'.ownsRow base 62 4 (.slice B' (n + m) cb') (n + m) (xs ++ news) → w.grownBy w' (Value.slice B n cb).ownBlock →
      ((Value.slice B' (n + m) cb').ownBlock = (Value.slice B n cb).ownBlock ∨ (Value.slice B' (n + m) cb').ownBlock = some w.heap.size) → wpList Tryz.prog ops Q rest (a.put o.dst (.slice B' (n + m) cb')) w') :
    wpList Tryz.prog ops Q (o :: rest) a w := by
  obtain ⟨i0, hi, hz0, hz1, hz2⟩ := info_parts ce_info
  exact wpList_append_rd w hgd s x 56 ho base 62 Tryz.underlying56 hi hz0 hz1 hz2 rfl (by decide) hs hown hx hl hr h1 (by unfold maxLen; omega) (by omega) hbase h
theorem ce_nilq (w : World) (A : Option Addr) (n c n' c' : Nat) : (binOp .eql 56 (.slice A n c) (.slice none n' c')).run Tryz.prog w = .ok (.bool A.isNone) w := Lib.run_eql_slice_nil w _ _ A n c n' c' Tryz.underlying56
/-- a copy in new memory -/
def ce_CloneR (n : Nat) (xs : List Value) (w : World) (e : Ending) (w' : World) : Prop := ∃ B d, e = .returned (.slice B n d) ∧ w'.ownsRow w.heap.size 62 4 (.slice B n d) n xs ∧ Ext w w'
set_option maxHeartbeats 1000000 in
theorem ce_clone (w : World) (A : Option Addr) (n c : Nat) (xs : List Value) (hl : xs.length = n * 4) (hn : n ≤ 100000) (hr : Rd w A xs) (h1 : ∀ u ∈ xs, u.oneCell' = true) :
    Calls Tryz.prog 184 #[.slice A n c] w (ce_CloneR n xs w) := by
  have q := ce_nilq
  have Hl := Lib.hid hl; have Hr := Lib.hid hr; have H1 := Lib.hid h1
  cases A with
  | none =>
    have hx : xs = [] := by
      rcases Classical.em (xs = []) with h | h
      · exact h
      · obtain ⟨b, off, e, _⟩ := hr h; cases e
    have hn0 : n = 0 := by rw [hx] at hl; simp at hl; omega
    subst hn0 hx
    clear hl hr h1
    go_enter Tryz.func184, Tryz.ntmps184
    go_wp2_with fail
    go_ret
    exact ⟨none, 0, rfl, World.ownsRow_nil _ _ _ _, Ext.refl _⟩
  | some a =>
    clear hl hr h1
    have h0 : (w.alloc (.cells #[] 62)).ownsRow w.heap.size 62 4 (.slice (some ⟨w.heap.size, 0, none⟩) 0 0) 0 [] := own_made w [] 62 4 0 rfl (Nat.zero_le _) (Nat.le_refl _)
    go_enter Tryz.func184, Tryz.ntmps184
    go_wp2_with (at_builtin; refine ce_app _ rfl (.tmp 5) (.tmp 6) rfl w.heap.size rfl h0 rfl Hl.out (Hr.out.alloc _) H1.out (by omega) (by simp) ?_; intro A' c' w1 hown hgrow _; simp only [Nat.zero_add, List.nil_append] at hown)
    go_ret
    exact ⟨A', c', rfl, hown, ((Ext.refl w).alloc _).grown hgrow (by simp [Value.ownBlock])⟩
def ce_InsR (base : Nat) (A : Option Addr) (n c : Nat) (xs : List Value) (k : Nat) (nv : List Value) (w : World) (e : Ending) (w' : World) : Prop :=
  ∃ A' c', e = .returned (.slice A' (n + 1) c') ∧ w'.ownsRow base 62 4 (.slice A' (n + 1) c') (n + 1) (insF 4 xs k nv) ∧ w.grownBy w' (Value.slice A n c).ownBlock
theorem ce_one {w : World} {vb : Nat} {nv : List Value} (h : w.heap[vb]? = some (.cells nv.toArray 62 (0, 0))) : Rd w (some ⟨vb, 0, none⟩) nv := fun _ => ⟨vb, 0, rfl, fun j u hu => by
  rw [Nat.zero_add, blk_cell h j, List.getElem?_toArray]; exact hu⟩
set_option maxHeartbeats 4000000 in
theorem ce_ins_end (w : World) (base : Nat) (A : Option Addr) (n c vb : Nat) (xs nv : List Value) (hnl : nv.length = 4) (hn1 : ∀ u ∈ nv, u.oneCell' = true) (hn : n ≤ 100000) (ho : w.ownsRow base 62 4 (.slice A n c) n xs) (hv : w.heap[vb]? = some (.cells nv.toArray 62 (0, 0))) (hbase : base ≤ w.heap.size) :
    Calls Tryz.prog 286 #[.slice A n c, .int .i64 (n : Int), .slice (some ⟨vb, 0, none⟩) 1 1] w (ce_InsR base A n c xs n nv w) := by
  have hnc := own_cap ho
  have Ho := Lib.hid ho; have R := Lib.hid (ce_one hv); have Hl := Lib.hid ho.1; have Hn1 := Lib.hid hn1; have Hnl := Lib.hid hnl
  clear ho hv hn1 hnl
  obtain ⟨A0, hsl, _, _⟩ := slice_from_s (s := 4) Tryz.underlying56 ce_size (A := A) (n := n) (c := c) (m := 0) (d := c - n) n (ki := (n : Int)) rfl hnc (by omega) (by omega)
  go_enter Tryz.func286, Tryz.ntmps286
  go_wp2_with (at_builtin; refine ce_app _ rfl (.tmp 23) (.tmp 24) rfl base rfl Ho.out rfl (m := 1) (news := nv) (by rw [Nat.one_mul]; exact Hnl.out) R.out Hn1.out (by omega) hbase ?_; intro A' c' w1 hown hgrow _)
  go_ret
  refine ⟨A', c', rfl, ?_, hgrow⟩
  have e : insF 4 xs n nv = xs ++ nv := by
    unfold insF
    rw [List.take_of_length_le (by rw [Hl.out]; exact Nat.le_refl _), List.drop_of_length_le (by rw [Hl.out]; exact Nat.le_refl _), List.append_nil]
  rw [e]
  exact hown
set_option maxHeartbeats 4000000 in
set_option maxRecDepth 100000 in
theorem ce_ins_room (w : World) (base : Nat) (A : Option Addr) (n c vb k : Nat) (xs nv : List Value) (hx1 : ∀ u ∈ xs, u.oneCell' = true) (hnl : nv.length = 4) (hn1 : ∀ u ∈ nv, u.oneCell' = true) (hn : n ≤ 100000) (hk : k < n) (hc : n < c) (hcm : c ≤ 9223372036854775807) (ho : w.ownsRow base 62 4 (.slice A n c) n xs) (hv : w.heap[vb]? = some (.cells nv.toArray 62 (0, 0))) (hne : (Value.slice A n c).ownBlock ≠ some vb) :
    Calls Tryz.prog 286 #[.slice A n c, .int .i64 (k : Int), .slice (some ⟨vb, 0, none⟩) 1 1] w (ce_InsR base A n c xs k nv w) := by
  have hl : xs.length = n * 4 := ho.1
  obtain ⟨g, rfl, hg1, hg2⟩ := own_some_s ho (by omega)
  have hgv : vb ≠ g := fun e => hne (by simp [Value.ownBlock, e])
  obtain ⟨us, hus, hm⟩ := own_more_s ho hc
  have hshg : ∃ k', w.shape? g = some (62, k') ∧ k' ≠ 0 := by
    rcases ho.2 with ⟨h1, _⟩ | ⟨g', cap, cur, h1, _, hg, _, _, hcs, _⟩
    · injection h1 with h1; cases h1
    · injection h1 with h1 h3 h4
      injection h1 with h1
      injection h1 with h1
      subst h1
      refine ⟨cur.size, ?_, by omega⟩
      simp [World.shape?, hg]
  obtain ⟨kB, hsb, hkB⟩ := hshg
  have hsa : w.shape? vb = some (62, 4) := by simp [World.shape?, hv, hnl]
  have hov : ∀ lb cb, (callFunc 295 #[.slice (some ⟨vb, 0, none⟩) 1 1, .slice (some ⟨g, (k + 1) * 4, none⟩) lb cb]).run Tryz.prog w = .ok (.value (.bool false)) w := fun lb cb => by
    rw [run_callFunc_extern Tryz.func295 (by kernel_rfl) (by kernel_rfl) (by kernel_rfl) (e := Extern.SlicesOverlaps.overlaps #[56, 56] #[4]) (by kernel_rfl),
      Lib.run_overlaps_apart w 56 4 62 Tryz.underlying56 4 ce_size ⟨vb, 0, none⟩ ⟨g, (k + 1) * 4, none⟩ 1 1 lb cb hgv 62 62 4 kB hsa hsb hkB (blk_frozen hv 0) (blk_frozen hv 4)]
    rfl
  have hlen : (xs ++ us).length = (n + 1) * 4 := by rw [List.length_append, hl, hus]; omega
  have hdl : (xs.drop (k * 4)).length = (n - k) * 4 := by rw [List.length_drop, hl]; omega
  have hcell : ∀ j, j < (n + 1) * 4 → w.cell? ⟨g, j, none⟩ = (xs ++ us)[j]? := fun j hj => hm.cellAt j hj
  have hsome : ∀ j, j < (n + 1) * 4 → (w.cell? ⟨g, j, none⟩).isSome = true := fun j hj => by rw [hcell j hj, List.getElem?_eq_getElem (by omega)]; rfl
  have hfz : ∀ j, w.frozen? ⟨g, j, none⟩ = false := fun j => hm.frozenAt j
  have hcp1 : ∀ ty dc sc, (Builtin.copy_ #[56, 56] ty #[.slice (some ⟨g, (k + 1) * 4, none⟩) (n - k) dc, .slice (some ⟨g, k * 4, none⟩) (n + 1 - k) sc]).run Tryz.prog w.drew = .ok (goInt ((n - k : Nat) : Int)) (w.drew.setCells g ((k + 1) * 4) (xs.drop (k * 4))) := fun ty dc sc =>
    run_copy_cells_s w.drew _ _ ty 62 4 g ((k + 1) * 4) (n - k) dc ⟨g, k * 4, none⟩ (n + 1 - k) sc (n - k) _ Tryz.underlying56 ce_info1 (by simp only [Nat.min_def]; split <;> omega) hdl
      (fun j v hj => by
        rw [Addr.add_lit]
        have hjl : j < (n - k) * 4 := by rw [← hdl]; exact (List.getElem?_eq_some_iff.1 hj).1
        refine (hcell (k * 4 + j) (by omega)).trans ?_
        rw [List.getElem?_append_left (by rw [hl]; omega), ← hj, List.getElem?_drop])
      (fun j hj => hsome _ (by rw [hdl] at hj; omega)) (fun j _ => hfz _) (fun v hv => hx1 v (List.mem_of_mem_drop hv))
  obtain ⟨W1, hW1⟩ : ∃ W1, w.drew.setCells g ((k + 1) * 4) (xs.drop (k * 4)) = W1 := ⟨_, rfl⟩
  have hp1 := own_put_s (xs.drop (k * 4)) w.drew _ ((k + 1) * 4) hm.drew
  rw [hW1] at hp1 hcp1
  obtain ⟨hm1, hG1⟩ := hp1
  have hput1 : putAt (xs ++ us) ((k + 1) * 4) (xs.drop (k * 4)) = (xs ++ us).take ((k + 1) * 4) ++ xs.drop (k * 4) := by
    rw [putAt_eq _ _ _ (by rw [hlen, hdl]; omega), show (xs ++ us).drop ((k + 1) * 4 + (xs.drop (k * 4)).length) = [] from List.drop_of_length_le (by rw [hlen, hdl]; omega), List.append_nil]
  have hvW : W1.heap[vb]? = some (.cells nv.toArray 62 (0, 0)) := blk_grown (show w.drew.heap[vb]? = _ from hv) hG1 hgv
  have hlen1 : (putAt (xs ++ us) ((k + 1) * 4) (xs.drop (k * 4))).length = (n + 1) * 4 := by rw [hput1, List.length_append, List.length_take, hlen, hdl]; omega
  have hcp2 : ∀ ty dc, (Builtin.copy_ #[56, 56] ty #[.slice (some ⟨g, k * 4, none⟩) (n + 1 - k) dc, .slice (some ⟨vb, 0, none⟩) 1 1]).run Tryz.prog W1 = .ok (goInt 1) (W1.setCells g (k * 4) nv) := fun ty dc =>
    run_copy_cells_s W1 _ _ ty 62 4 g (k * 4) (n + 1 - k) dc ⟨vb, 0, none⟩ 1 1 1 nv Tryz.underlying56 ce_info1 (by simp only [Nat.min_def]; split <;> omega) (by rw [hnl])
      (fun j v hj => by
        rw [Addr.add_lit, Nat.zero_add]
        exact (blk_cell hvW j).trans (by rw [List.getElem?_toArray]; exact hj))
      (fun j hj => by
        rw [hnl] at hj
        rw [hm1.cellAt (k * 4 + j) (by omega), List.getElem?_eq_getElem (by omega)]; rfl)
      (fun j _ => hm1.frozenAt _) hn1
  have hp2 := own_put_s nv W1 _ (k * 4) hm1
  obtain ⟨W2, hW2⟩ : ∃ W2, W1.setCells g (k * 4) nv = W2 := ⟨_, rfl⟩
  rw [hW2] at hp2 hcp2
  have hfin : putAt (putAt (xs ++ us) ((k + 1) * 4) (xs.drop (k * 4))) (k * 4) nv = insF 4 xs k nv := by
    rw [putAt_eq _ _ _ (by rw [hlen1, hnl]; omega), hput1]
    unfold insF
    have h1 : ((xs ++ us).take ((k + 1) * 4) ++ xs.drop (k * 4)).take (k * 4) = xs.take (k * 4) := by
      rw [List.take_append_of_le_length (by rw [List.length_take, hlen]; omega), List.take_take, Nat.min_eq_left (by omega), List.take_append_of_le_length (by rw [hl]; omega)]
    have h2 : ((xs ++ us).take ((k + 1) * 4) ++ xs.drop (k * 4)).drop (k * 4 + nv.length) = xs.drop (k * 4) := List.drop_left' (by rw [List.length_take, hlen, hnl]; omega)
    rw [h1, h2]
  have Fin := Lib.hid (show ce_InsR base (some ⟨g, 0, none⟩) n c xs k nv w (.returned (.slice (some ⟨g, 0, none⟩) (n + 1) c)) W2 from ⟨_, _, rfl, by rw [← hfin]; exact hp2.1, World.grown_trans (grown_undrew hG1) hp2.2⟩)
  have HW1 := Lib.hid hW1; have HW2 := Lib.hid hW2
  clear hp2 hfin hm hm1 hG1 hput1 hlen1 hsome hcell hfz hsa hsb hkB hlen hdl ho hv hvW hl hW1 hW2 hg1 hg2 hne hgv hx1 hn1
  have hw1 : IntKind.i64.wrap ((k : Int) + 1) = (k : Int) + 1 := by rw [IntKind.wrap_i64]; omega
  have hw2 : IntKind.i64.wrap ((n : Int) + 1) = (n : Int) + 1 := by rw [IntKind.wrap_i64]; omega
  have hz2 : ¬ ((k : Int) = (n : Int)) := by omega
  have hb1 : (0 : Int) ≤ (k : Int) + 1 := by omega
  have hin : k ≤ n := by omega
  have htn : ((k : Int) + 1).toNat = k + 1 := by omega
  have htn2 : ((n : Int) + 1).toNat = n + 1 := by omega
  have hb0 : (0 : Int) ≤ (n : Int) + 1 := by omega
  have hb2 : ¬ (c = k + 1) := by omega
  have hb3 : (k : Int) ≤ (n : Int) + 1 := by omega
  have hb4 : ¬ (c = k) := by omega
  have hb5 : ¬ ((c : Int) < (n : Int) + 1) := by omega
  have hb6 : (n : Int) + 1 ≤ (c : Int) := by omega
  have mixed : Tryz.prog.follows Departure.mixedOrders = true := by kernel_rfl
  have hsz := ce_size
  go_enter Tryz.func286, Tryz.ntmps286
  go_wp2_with (simp only [hov])
  go_region_law_o (refine step_copy_runI rfl _ _ 56 56 rfl _ _ (by simp [Act.eval, Act.put]) (by simp [Act.eval, Act.put]) (hcp1 _ _ _) ?_)
  go_wp2_with (at_builtin; refine wpList_copy_runI _ rfl _ _ 56 56 rfl _ _ rfl rfl (hcp2 _ _) ?_)
  go_ret
  exact Fin.out
set_option maxHeartbeats 4000000 in
set_option maxRecDepth 100000 in
theorem ce_ins_grow (w : World) (base : Nat) (A : Option Addr) (n c vb k : Nat) (xs nv : List Value) (hx1 : ∀ u ∈ xs, u.oneCell' = true) (hnl : nv.length = 4) (hn1 : ∀ u ∈ nv, u.oneCell' = true) (hn : n ≤ 100000) (hk : k < n) (hnc : n ≤ c) (hc : c < n + 1) (ho : w.ownsRow base 62 4 (.slice A n c) n xs) (hv : w.heap[vb]? = some (.cells nv.toArray 62 (0, 0))) (hbase : base ≤ w.heap.size) :
    Calls Tryz.prog 286 #[.slice A n c, .int .i64 (k : Int), .slice (some ⟨vb, 0, none⟩) 1 1] w (ce_InsR base A n c xs k nv w) := by
  have hl : xs.length = n * 4 := ho.1
  obtain ⟨g, rfl, hg1, hg2⟩ := own_some_s ho (by omega)
  obtain ⟨i0, hi0, hz0, hzs, hzb⟩ := info_parts ce_info
  have hdl : (xs.drop (k * 4)).length = (n - k) * 4 := by rw [List.length_drop, hl]; omega
  have htl : (xs.take (k * 4)).length = k * 4 := by rw [List.length_take, hl]; omega
  have hcell : ∀ j, j < n * 4 → w.cell? ⟨g, j, none⟩ = xs[j]? := fun j hj => ho.cellAt j hj
  have hold : (Builtin.firstCells i0.size k (.slice (some ⟨g, 0, none⟩) k c)).run Tryz.prog w.drew = .ok (xs.take (k * 4)).toArray w.drew := by
    rw [hzs]
    exact run_firstCells_some w.drew 4 k ⟨g, 0, none⟩ k c (xs.take (k * 4)) (by rw [htl]) (fun j v hj => by
      rw [Addr.add_lit, Nat.zero_add]
      have hjk : j < k * 4 := by rw [← htl]; exact (List.getElem?_eq_some_iff.1 hj).1
      rw [List.getElem?_take, if_pos hjk] at hj
      exact (hcell j (by omega)).trans hj)
  obtain ⟨G, hG⟩ : ∃ G, grownCap w (n + 1) c 62 = G := ⟨_, rfl⟩
  obtain ⟨ROW, hROW⟩ : ∃ ROW : Array Value, (xs.take (k * 4)).toArray ++ Builtin.zeroCells (Value.cells (.agg #[.int .i64 0, .slice none 0 0, .int .i64 0, .slice none 0 0])) (n + 1 - k) ++ Builtin.zeroCells (Value.cells (.agg #[.int .i64 0, .slice none 0 0, .int .i64 0, .slice none 0 0])) (G - (n + 1)) = ROW := ⟨_, rfl⟩
  have hGn : n + 1 ≤ G := by rw [← hG]; exact grownCap_ge w _ _ _
  have hGm : G ≤ maxLen := by rw [← hG]; exact grownCap_le_maxLen w (n + 1) c 62 (by unfold maxLen; omega)
  have hG63 : G ≤ 9223372036854775807 := by unfold maxLen at hGm; omega
  have hzz : (Value.cells (.agg #[.int .i64 0, .slice none 0 0, .int .i64 0, .slice none 0 0])).size = 4 := rfl
  have hRs : ROW.size = G * 4 := by
    rw [← hROW]
    simp only [Array.size_append, List.size_toArray, size_zeroCells, hzz, htl]
    omega
  obtain ⟨W1, hW1⟩ : ∃ W1, w.drew.alloc (.cells ROW 62) = W1 := ⟨_, rfl⟩
  have hkk : (n : Int) + 1 - (k : Int) = ((n + 1 - k : Nat) : Int) := by omega
  have hrz : ∀ ty, (Builtin.append_ #[56, 3] ty #[.slice (some ⟨g, 0, none⟩) k c, .int .i64 ((n : Int) + 1 - (k : Int))]).run Tryz.prog w = .ok (.slice (some ⟨w.heap.size, 0, none⟩) (n + 1) G) W1 := fun ty => by
    have h := Lib.run_append_grow_zeros w 56 3 ty 62 i0 _ .i64 .i64 Tryz.underlying56 Tryz.underlying3 hi0 hz0 (some ⟨g, 0, none⟩) k c (xs.take (k * 4)) hold (n + 1 - k) (by omega) (by omega) (by omega) (by omega) (by rw [hzb]; omega) (by rw [hzb, show k + (n + 1 - k) = n + 1 by omega]; exact growslice_fits hc (by omega))
    rw [show k + (n + 1 - k) = n + 1 by omega, hG, hROW, hW1] at h
    rw [hkk]
    exact h
  have hO : W1.ownsRow base 62 4 (.slice (some ⟨w.heap.size, 0, none⟩) (n + 1) G) (n + 1) (ROW.toList.take ((n + 1) * 4)) := by
    have h := own_made w.drew ROW.toList 62 4 G (by simpa using hRs) hGm (base := base) hbase
    rw [show ROW.toList.toArray = ROW by simp, hW1] at h
    exact own_sub_s h hGn
  have hRl : (ROW.toList.take ((n + 1) * 4)).length = (n + 1) * 4 := by rw [List.length_take, Array.length_toList, hRs]; omega
  have hRt : (ROW.toList.take ((n + 1) * 4)).take (k * 4) = xs.take (k * 4) := by
    rw [List.take_take, Nat.min_eq_left (by omega), ← hROW]
    simp only [Array.toList_append, List.append_assoc]
    exact List.take_left' htl
  have hE1 : Ext w W1 := by rw [← hW1]; exact ((Ext.refl w).drew).alloc _
  have hv1 := blk_ext hv hE1
  have hcp1 : ∀ ty dc, (Builtin.copy_ #[56, 56] ty #[.slice (some ⟨w.heap.size, k * 4, none⟩) (n + 1 - k) dc, .slice (some ⟨vb, 0, none⟩) 1 1]).run Tryz.prog W1 = .ok (goInt 1) (W1.setCells w.heap.size (k * 4) nv) := fun ty dc =>
    run_copy_cells_s W1 _ _ ty 62 4 w.heap.size (k * 4) (n + 1 - k) dc ⟨vb, 0, none⟩ 1 1 1 nv Tryz.underlying56 ce_info1 (by simp only [Nat.min_def]; split <;> omega) (by rw [hnl])
      (fun j v hj => by
        rw [Addr.add_lit, Nat.zero_add]
        exact (blk_cell hv1 j).trans (by rw [List.getElem?_toArray]; exact hj))
      (fun j hj => by
        rw [hnl] at hj
        rw [hO.cellAt (k * 4 + j) (by omega), List.getElem?_eq_getElem (by omega)]; rfl)
      (fun j _ => hO.frozenAt _) hn1
  have hp1 := own_put_s nv W1 _ (k * 4) hO
  obtain ⟨W2, hW2⟩ : ∃ W2, W1.setCells w.heap.size (k * 4) nv = W2 := ⟨_, rfl⟩
  rw [hW2] at hp1 hcp1
  obtain ⟨hm1, hG1⟩ := hp1
  have hput1 : putAt (ROW.toList.take ((n + 1) * 4)) (k * 4) nv = xs.take (k * 4) ++ (nv ++ (ROW.toList.take ((n + 1) * 4)).drop (k * 4 + 4)) := by
    rw [putAt_eq _ _ _ (by rw [hRl, hnl]; omega), hRt, hnl]
  have hlen1 : (putAt (ROW.toList.take ((n + 1) * 4)) (k * 4) nv).length = (n + 1) * 4 := by rw [hput1, List.length_append, List.length_append, List.length_drop, htl, hnl, hRl]; omega
  have hgN : g ≠ w.heap.size := by omega
  have hsrc : ∀ j, j < n * 4 → W2.cell? ⟨g, j, none⟩ = xs[j]? := fun j hj => by
    have hc1 : w.cell? ⟨g, j, none⟩ = some (xs[j]'(by omega)) := by rw [hcell j hj, List.getElem?_eq_getElem]
    have hc2 := ext_cell hE1 hc1
    rw [List.getElem?_eq_getElem (by omega)]
    exact (World.cell?_of_block (hG1.block g (World.block_lt_of_cell? W1 ⟨g, j, none⟩ hc2) (fun q => hgN (by injection q)))).trans hc2
  have hcp2 : ∀ ty dc sc, (Builtin.copy_ #[56, 56] ty #[.slice (some ⟨w.heap.size, (k + 1) * 4, none⟩) (n - k) dc, .slice (some ⟨g, k * 4, none⟩) (n - k) sc]).run Tryz.prog W2.drew = .ok (goInt ((n - k : Nat) : Int)) (W2.drew.setCells w.heap.size ((k + 1) * 4) (xs.drop (k * 4))) := fun ty dc sc =>
    run_copy_cells_s W2.drew _ _ ty 62 4 w.heap.size ((k + 1) * 4) (n - k) dc ⟨g, k * 4, none⟩ (n - k) sc (n - k) _ Tryz.underlying56 ce_info1 (by simp only [Nat.min_def]; split <;> omega) hdl
      (fun j v hj => by
        rw [Addr.add_lit]
        have hjl : j < (n - k) * 4 := by rw [← hdl]; exact (List.getElem?_eq_some_iff.1 hj).1
        refine (hsrc (k * 4 + j) (by omega)).trans ?_
        rw [← hj, List.getElem?_drop])
      (fun j hj => by
        rw [hdl] at hj
        show (W2.cell? _).isSome = true
        rw [hm1.cellAt _ (by omega), List.getElem?_eq_getElem (by omega)]; rfl)
      (fun j _ => hm1.frozenAt _) (fun v hv => hx1 v (List.mem_of_mem_drop hv))
  have hp2 := own_put_s (xs.drop (k * 4)) W2.drew _ ((k + 1) * 4) hm1.drew
  obtain ⟨W3, hW3⟩ : ∃ W3, W2.drew.setCells w.heap.size ((k + 1) * 4) (xs.drop (k * 4)) = W3 := ⟨_, rfl⟩
  rw [hW3] at hp2 hcp2
  have hfin : putAt (putAt (ROW.toList.take ((n + 1) * 4)) (k * 4) nv) ((k + 1) * 4) (xs.drop (k * 4)) = insF 4 xs k nv := by
    rw [putAt_eq _ _ _ (by rw [hlen1, hdl]; omega)]
    rw [show (putAt (ROW.toList.take ((n + 1) * 4)) (k * 4) nv).drop ((k + 1) * 4 + (xs.drop (k * 4)).length) = [] from List.drop_of_length_le (by rw [hlen1, hdl]; omega), List.append_nil, hput1]
    unfold insF
    have h1 : (xs.take (k * 4) ++ (nv ++ (ROW.toList.take ((n + 1) * 4)).drop (k * 4 + 4))).take ((k + 1) * 4) = xs.take (k * 4) ++ nv := by
      rw [← List.append_assoc]
      exact List.take_left' (by rw [List.length_append, htl, hnl]; omega)
    rw [h1, List.append_assoc]
  have Fin := Lib.hid (show ce_InsR base (some ⟨g, 0, none⟩) n c xs k nv w (.returned (.slice (some ⟨w.heap.size, 0, none⟩) (n + 1) G)) W3 from ⟨_, _, rfl, by rw [← hfin]; exact hp2.1, grown_new (grown_drew (grown_new (grown_none hE1 _) hG1 (Nat.le_refl _))) hp2.2 (Nat.le_refl _)⟩)
  clear hp2 hfin hm1 hG1 hput1 hlen1 hsrc hO hRl hRt hE1 hv1 hRs hROW hG hkk hold hcell hdl htl ho hv hl hW1 hW2 hW3 hg1 hGm hi0 hz0 hzs hzb hx1 hn1 hzz
  have hw1 : IntKind.i64.wrap ((k : Int) + 1) = (k : Int) + 1 := by rw [IntKind.wrap_i64]; omega
  have hw2 : IntKind.i64.wrap ((n : Int) + 1) = (n : Int) + 1 := by rw [IntKind.wrap_i64]; omega
  have hw3 : IntKind.i64.wrap ((n : Int) + 1 - (k : Int)) = (n : Int) + 1 - (k : Int) := by rw [IntKind.wrap_i64]; omega
  have hz2 : ¬ ((k : Int) = (n : Int)) := by omega
  have hb1 : (0 : Int) ≤ (k : Int) + 1 := by omega
  have hin : k ≤ n := by omega
  have htn : ((k : Int) + 1).toNat = k + 1 := by omega
  have hb2 : ¬ (G = k + 1) := by omega
  have hb3 : (k : Int) ≤ (n : Int) + 1 := by omega
  have hb4 : ¬ (c = k) := by omega
  have hb7 : ¬ (G = k) := by omega
  have hb5 : (c : Int) < (n : Int) + 1 := by omega
  have hb6 : (k : Int) ≤ (c : Int) := by omega
  have mixed : Tryz.prog.follows Departure.mixedOrders = true := by kernel_rfl
  have hsz := ce_size
  go_enter Tryz.func286, Tryz.ntmps286
  go_wp2_with (first
    | (at_builtin; refine Lib.wpList_append_run _ rfl _ _ _ _ rfl _ _ rfl rfl _ _ (hrz _) ?_)
    | (at_builtin; refine wpList_copy_runI _ rfl _ _ 56 56 rfl _ _ rfl rfl (hcp1 _ _) ?_))
  go_region_law_o (refine step_copy_runI rfl _ _ 56 56 rfl _ _ (by simp [Act.eval, Act.put]) (by simp [Act.eval, Act.put]) (hcp2 _ _ _) ?_)
  go_wp2
  go_ret
  exact Fin.out
/-- slices.Insert of one -/
theorem ce_insert (w : World) (base : Nat) (A : Option Addr) (n c vb k : Nat) (xs nv : List Value) (hx1 : ∀ u ∈ xs, u.oneCell' = true) (hnl : nv.length = 4) (hn1 : ∀ u ∈ nv, u.oneCell' = true) (hn : n ≤ 100000) (hk : k ≤ n) (ho : w.ownsRow base 62 4 (.slice A n c) n xs) (hv : w.heap[vb]? = some (.cells nv.toArray 62 (0, 0))) (hne : (Value.slice A n c).ownBlock ≠ some vb) (hbase : base ≤ w.heap.size) :
    Calls Tryz.prog 286 #[.slice A n c, .int .i64 (k : Int), .slice (some ⟨vb, 0, none⟩) 1 1] w (ce_InsR base A n c xs k nv w) := by
  have hnc := own_cap ho
  by_cases h1 : k = n
  · subst h1
    exact ce_ins_end w base A k c vb xs nv hnl hn1 hn ho hv hbase
  · by_cases h2 : n < c
    · have hcm : c ≤ 9223372036854775807 := by
        rcases ho.2 with ⟨h3, h4⟩ | ⟨g, cap, cur, h3, _, _, _, h4, _⟩
        · omega
        · injection h3 with _ _ h3
          unfold maxLen at h4
          omega
      exact ce_ins_room w base A n c vb k xs nv hx1 hnl hn1 hn (by omega) h2 hcm ho hv hne
    · exact ce_ins_grow w base A n c vb k xs nv hx1 hnl hn1 hn (by omega) hnc (by omega) ho hv hbase
end

section
open Go.RowKit

/-- a list of cells, its row in new memory -/
def WithR (X : Nat → Prop) (l : List PCell) (w : World) (e : Ending) (w' : World) : Prop :=
  ∃ A n c rs, l.length = n ∧ e = .returned (.slice A n c) ∧ CellsF w' X A l rs ∧ Ext w w'
theorem cellsV_set {rs : List CRef} {l : List PCell} (h : rs.length = l.length) (i : Nat) (r : CRef) (c : PCell) (hi : i < l.length) : putAt (cellsV rs l) (i * 4) (cellV r c) = cellsV (rs.set i r) (l.set i c) := by
  have hlen : (cellsV rs l).length = l.length * 4 := zipG_len cellV 4 cellV_len rs l h
  rw [putAt_eq _ _ _ (by rw [hlen, cellV_len]; omega), List.set_eq_take_append_cons_drop, if_pos (by rw [h]; exact hi), List.set_eq_take_append_cons_drop, if_pos hi]
  unfold cellsV
  rw [zipG_app cellV (by rw [List.length_take, List.length_take, h]), zipG_take cellV 4 cellV_len _ _ _ h, List.zip_cons_cons, List.flatMap_cons, zipG_drop cellV 4 cellV_len _ _ _ h, cellV_len, Nat.add_mul, Nat.one_mul]
theorem cellsV_ins {rs : List CRef} {l : List PCell} (h : rs.length = l.length) (i : Nat) (r : CRef) (c : PCell) : insF 4 (cellsV rs l) i (cellV r c) = cellsV (rs.take i ++ r :: rs.drop i) (l.take i ++ c :: l.drop i) := by
  unfold cellsV insF
  rw [zipG_app cellV (by rw [List.length_take, List.length_take, h]), zipG_take cellV 4 cellV_len _ _ _ h, List.zip_cons_cons, List.flatMap_cons, zipG_drop cellV 4 cellV_len _ _ _ h]
theorem cellsV_one (rs : List CRef) (l : List PCell) : ∀ v ∈ cellsV rs l, v.oneCell' = true := zipG_one cellV cellV_one rs l
/-- a row of one's own, of any size, reads -/
theorem rd_of_own_s {w : World} {base s : Nat} {e : TypeId} {A : Option Addr} {n c : Nat} {vs : List Value} (h : w.ownsRow base e s (.slice A n c) n vs) : Rd w A vs := fun hne => by
  rcases h.2 with ⟨h1, h2⟩ | ⟨g, cap, cur, h1, _⟩
  · exact absurd (List.length_eq_zero_iff.1 (by rw [h.1, h2, Nat.zero_mul])) hne
  · injection h1 with h1
    subst h1
    exact ⟨g, 0, rfl, fun j u hu => by rw [Nat.zero_add, h.cellAt j (by have := (List.getElem?_eq_some_iff.1 hu).1; have := h.1; omega)]; exact hu⟩
theorem fz_of_own {w : World} {X : Nat → Prop} {base s : Nat} {e : TypeId} {A : Option Addr} {n c : Nat} {vs : List Value} (h : w.ownsRow base e s (.slice A n c) n vs) (hb : ∀ i, X i → i < base) : Fz w X A := fun a ha => by
  rcases h.2 with ⟨h1, _⟩ | ⟨g, cap, cur, h1, hg, hh, _⟩
  · injection h1 with h1; rw [h1] at ha; cases ha
  · injection h1 with h1
    rw [h1] at ha
    injection ha with ha
    subst ha
    exact ⟨fun e => by have h9 : g < base := hb _ e; omega, (Array.getElem?_eq_some_iff.1 hh).1⟩
theorem own_at_ge {w : World} {base s : Nat} {e : TypeId} {A : Option Addr} {n c : Nat} {vs : List Value} (h : w.ownsRow base e s (.slice A n c) n vs) : ∀ a, A = some a → base ≤ a.block ∧ a.block < w.heap.size ∧ (Value.slice A n c).ownBlock = some a.block := fun a ha => by
  rcases h.2 with ⟨h1, _⟩ | ⟨g, cap, cur, h1, hg, hh, _⟩
  · injection h1 with h1; rw [h1] at ha; cases ha
  · injection h1 with h1
    subst h1
    injection ha with ha
    subst ha
    exact ⟨hg, (Array.getElem?_eq_some_iff.1 hh).1, rfl⟩
theorem mem_set_or {α : Type} {l : List α} {i : Nat} {a b : α} (h : b ∈ l.set i a) : b = a ∨ b ∈ l := (List.mem_or_eq_of_mem_set h).symm
theorem kbclone_any (A : Option Addr) (n c : Nat) (xs : List Nat) (w : World) (hl : xs.length = n) (hn : n ≤ 140737488355328) (hr : Rd w A (vals .u8 xs)) : Calls Tryz.prog 67 #[.slice A n c] w (RetB xs w) := by
  cases A with
  | none =>
    have hx : xs = [] := by
      cases xs with
      | nil => rfl
      | cons x t =>
        obtain ⟨b, off, hA, _⟩ := hr (by simp [vals])
        cases hA
    subst hx
    exact (clone_nil w n c).mono fun e w' ⟨he, hw⟩ => ⟨none, 0, he, World.ownsRow_nil _ _ _ _, hw ▸ Ext.refl w⟩
  | some a => exact clone_some a n c xs w hl hn hr
set_option maxHeartbeats 2000000 in
theorem bwith_has (w : World) (X : Nat → Prop) (A : Option Addr) (n c at_ : Nat) (l : List PCell) (rs : List CRef) (ce : PCell) (r : CRef) (hX : Newer w X) (hl : l.length = n) (hn : n ≤ 5000) (hE : CellsF w X A l rs) (hP : PartsF w X r ce) (hat : at_ < n) :
    Calls Tryz.prog 256 #[.slice A n c, .int .i64 (at_ : Int), .bool true, .agg #[.int .i64 (ce.pol : Int), .slice r.K ce.key.length r.kc, .int .i64 ce.tat, .slice r.H ce.held.length r.hc]] w (WithR X (l.set at_ ce) w) := by
  obtain ⟨W, hW⟩ : ∃ W, (w.alloc (.cells #[.int .i64 (ce.pol : Int), .slice r.K ce.key.length r.kc, .int .i64 ce.tat, .slice r.H ce.held.length r.hc] 62)) = W := ⟨_, rfl⟩
  have xW : Ext w W := by rw [← hW]; exact ((Ext.refl w).alloc _)
  have K0 := Lib.hid (show W.heap[w.heap.size]? = some (.cells #[.int .i64 (ce.pol : Int), .slice r.K ce.key.length r.kc, .int .i64 ce.tat, .slice r.H ce.held.length r.hc] 62 (0, 0)) by rw [← hW]; exact blk_new w _)
  have hlen : (cellsV rs l).length = n * 4 := by rw [← hl]; exact zipG_len cellV 4 cellV_len rs l hE.1.1
  have CL := Lib.hid (ce_clone W A n c (cellsV rs l) hlen (by omega) (hE.1.2.1.ext xW) (cellsV_one rs l))
  have HE := Lib.hid hE; have HP := Lib.hid hP; have XW := Lib.hid xW; have HX := Lib.hid hX; have Hl := Lib.hid hl; have Hlen := Lib.hid hlen
  clear hE hP xW hX hl hlen
  go_enter Tryz.func256, Tryz.ntmps256
  go_upto_region 1 with fail
  (try rw [hW])
  clear hW
  go_wp2_with fail
  refine CL.out.mono ?_
  rintro e w1 ⟨B, d, rfl, ho, hx⟩
  obtain ⟨g, rfl, hg1, hg2⟩ := own_some_s ho (by have := own_cap ho; omega)
  have KB := blk_ext K0.out hx
  have b0 := blk_cell KB 0; have b1 := blk_cell KB 1; have b2 := blk_cell KB 2; have b3 := blk_cell KB 3
  have hs : ∀ j, j < 4 → ∃ v, w1.cell? ⟨g, at_ * 4 + j, none⟩ = some v := fun j hj => by
    rw [ho.cellAt (at_ * 4 + j) (by omega), List.getElem?_eq_getElem (by have := Hlen.out; omega)]
    exact ⟨_, rfl⟩
  obtain ⟨v0, s0⟩ := hs 0 (by omega); obtain ⟨v1, s1⟩ := hs 1 (by omega); obtain ⟨v2, s2⟩ := hs 2 (by omega); obtain ⟨v3, s3⟩ := hs 3 (by omega)
  rw [Nat.add_zero] at s0
  have f0 := ho.frozenAt (at_ * 4); have f1 := ho.frozenAt (at_ * 4 + 1); have f2 := ho.frozenAt (at_ * 4 + 2); have f3 := ho.frozenAt (at_ * 4 + 3)
  have HO := Lib.hid ho; have X1 := Lib.hid hx
  have hg0 : g ≠ w.heap.size := fun e => by have := blk_lt K0.out; omega
  clear ho hx KB hs
  go_wp2_with fail
  go_ret
  obtain ⟨hp1, hp2⟩ := own_put_s (cellV r ce) w1 _ (at_ * 4) HO.out
  rw [cellsV_set HE.out.1.1 at_ r ce (by rw [Hl.out]; exact hat)] at hp1
  obtain ⟨w2, hw2⟩ : ∃ w2, w1.setCells g (at_ * 4) (cellV r ce) = w2 := ⟨_, rfl⟩
  have hw3 : (((w1.setCell ⟨g, at_ * 4, none⟩ (.int .i64 (ce.pol : Int))).setCell ⟨g, at_ * 4 + 1, none⟩ (.slice r.K ce.key.length r.kc)).setCell ⟨g, at_ * 4 + 2, none⟩ (.int .i64 ce.tat)).setCell ⟨g, at_ * 4 + 3, none⟩ (.slice r.H ce.held.length r.hc) = w2 := hw2
  rw [hw3]
  rw [hw2] at hp1 hp2
  have xF : Ext w w2 := ext_grown (XW.out.trans X1.out) hp2 (by have := XW.out.size; omega)
  refine ⟨some ⟨g, 0, none⟩, n, d, rs.set at_ r, by rw [List.length_set]; exact Hl.out, rfl, ⟨⟨by rw [List.length_set, List.length_set]; exact HE.out.1.1, rd_of_own_s hp1, fun i r' c' hr' hc' => ?_⟩, fz_of_own hp1 (fun i hi => Nat.lt_of_lt_of_le (HX.out i hi) XW.out.size), fun r' hr' => ?_⟩, xF⟩
  · by_cases e : at_ = i
    · subst e
      rw [List.getElem?_set_self (by rw [HE.out.1.1, Hl.out]; exact hat)] at hr'
      rw [List.getElem?_set_self (by rw [Hl.out]; exact hat)] at hc'
      injection hr' with hr'; injection hc' with hc'
      subst hr' hc'
      exact (HP.out.ext xF).1
    · rw [List.getElem?_set_ne e] at hr' hc'
      exact (HE.out.1.2.2 i r' c' hr' hc').ext xF
  · rcases mem_set_or hr' with h | h
    · rw [h]; exact (HP.out.ext xF).2
    · exact ((HE.out.ext xF).2.2 r' h)
set_option maxHeartbeats 2000000 in
theorem bwith_new (w : World) (X : Nat → Prop) (A : Option Addr) (n c at_ : Nat) (l : List PCell) (rs : List CRef) (ce : PCell) (r : CRef) (hX : Newer w X) (hl : l.length = n) (hn : n ≤ 5000) (hE : CellsF w X A l rs) (hP : PartsF w X r ce) (hat : at_ ≤ n) (hk : ce.key.length ≤ 255) :
    Calls Tryz.prog 256 #[.slice A n c, .int .i64 (at_ : Int), .bool false, .agg #[.int .i64 (ce.pol : Int), .slice r.K ce.key.length r.kc, .int .i64 ce.tat, .slice r.H ce.held.length r.hc]] w (WithR X (l.take at_ ++ ce :: l.drop at_) w) := by
  obtain ⟨W, hW⟩ : ∃ W, (w.alloc (.cells #[.int .i64 (ce.pol : Int), .slice r.K ce.key.length r.kc, .int .i64 ce.tat, .slice r.H ce.held.length r.hc] 62)) = W := ⟨_, rfl⟩
  have xW : Ext w W := by rw [← hW]; exact ((Ext.refl w).alloc _)
  have K0 := Lib.hid (show W.heap[w.heap.size]? = some (.cells #[.int .i64 (ce.pol : Int), .slice r.K ce.key.length r.kc, .int .i64 ce.tat, .slice r.H ce.held.length r.hc] 62 (0, 0)) by rw [← hW]; exact blk_new w _)
  have hlen : (cellsV rs l).length = n * 4 := by rw [← hl]; exact zipG_len cellV 4 cellV_len rs l hE.1.1
  have CL := Lib.hid (ce_clone W A n c (cellsV rs l) hlen (by omega) (hE.1.2.1.ext xW) (cellsV_one rs l))
  have HE := Lib.hid hE; have HP := Lib.hid hP; have XW := Lib.hid xW; have HX := Lib.hid hX; have Hl := Lib.hid hl; have Hlen := Lib.hid hlen
  have KC := Lib.hid (fun u (x : Ext w u) => kbclone_any r.K ce.key.length r.kc ce.key u rfl (by omega) (hP.1.2.1.ext x))
  clear hE hP xW hX hl hlen
  go_enter Tryz.func256, Tryz.ntmps256
  go_upto_region 1 with fail
  (try rw [hW])
  clear hW
  go_wp2_with fail
  refine CL.out.mono ?_
  rintro e w1 ⟨B, d, rfl, ho, hx⟩
  have HO := Lib.hid ho; have X1 := Lib.hid hx
  have K1 := Lib.hid (blk_ext K0.out hx)
  have b1 := blk_cell K1.out 1
  clear ho hx
  go_wp2_with fail
  refine (KC.out w1 (XW.out.trans X1.out)).mono ?_
  rintro e w2 ⟨K', kc', rfl, ok, hx⟩
  have HOK := Lib.hid ok; have X2 := Lib.hid hx
  have K2 := Lib.hid (blk_ext K1.out hx)
  clear ok hx b1
  have b0 := blk_cell K2.out 0; have b1 := blk_cell K2.out 1; have b2 := blk_cell K2.out 2; have b3 := blk_cell K2.out 3; have y1 := blk_frozen K2.out 1
  have hw0 : w.heap.size < W.heap.size := blk_lt K0.out
  have z12 := X1.out.size
  have z22 := X2.out.size
  obtain ⟨V, hV⟩ : ∃ V, (w2.setCell ⟨w.heap.size, 1, none⟩ (.slice K' ce.key.length kc')).alloc (.cells #[.int .i64 (ce.pol : Int), .slice K' ce.key.length kc', .int .i64 ce.tat, .slice r.H ce.held.length r.hc] 62) = V := ⟨_, rfl⟩
  have gV : GB w1 V (· = w.heap.size) := by rw [← hV]; exact (((GB.refl w1 (· = w.heap.size)).ext X2.out).set w.heap.size 1 _ (.inl rfl)).alloc _
  have gV2 : GB w2 V (· = w.heap.size) := by rw [← hV]; exact ((GB.refl w2 (· = w.heap.size)).set w.heap.size 1 _ (.inl rfl)).alloc _
  have hv : V.heap[w2.heap.size]? = some (.cells (cellV ⟨K', kc', r.H, r.hc⟩ ce).toArray 62 (0, 0)) := by rw [← hV]; exact blk_newk _ _ (by simp)
  have hoV := gV.own HO.out (fun q e e2 => by have := own_ge HO.out q e; omega)
  have IN := Lib.hid (ce_insert V W.heap.size B n d w2.heap.size at_ (cellsV rs l) (cellV ⟨K', kc', r.H, r.hc⟩ ce) (cellsV_one rs l) rfl (cellV_one _ _) (by omega) hat hoV hv (fun e => by have := (HO.out.lt _ e).2; omega) (by have := gV.size; omega))
  have HV := Lib.hid hV; have GV2 := Lib.hid gV2
  clear gV gV2 hv hoV hV
  go_upto_region 6 with fail
  go_wp2_with fail
  (try rw [HV.out])
  refine IN.out.mono ?_
  rintro e w3 ⟨A3, c3, rfl, o3, g3⟩
  have O3 := Lib.hid o3; have G3 := Lib.hid g3
  clear o3 g3 b0 b1 b2 b3 y1
  go_wp2_with fail
  go_ret
  have o3 := O3.out
  rw [cellsV_ins HE.out.1.1] at o3
  have g23 : GB w2 w3 (fun i => i = w.heap.size ∨ (Value.slice B n d).ownBlock = some i) := (GV2.out.more (fun i _ e => .inl e)).grown G3.out (fun q e => .inl (.inr e))
  have xF : Ext w w3 := GB.to_ext g23 (XW.out.trans (X1.out.trans X2.out)) (fun i e => e.elim (fun e => by omega) (fun e => by have := own_ge HO.out i e; omega))
  have hlr := HE.out.1.1
  have hKr : Rd w3 K' (vals .u8 ce.key) := g23.rd (Rd.of_own HOK.out) (fun p hp e => by
    obtain ⟨h1, h2, h3⟩ := own_at_ge HOK.out p hp
    rcases e with e | e
    · omega
    · have := (HO.out.lt _ e).2; omega)
  have hKf : Fz w3 X K' := fun a ha => by
    obtain ⟨h1, h2, h3⟩ := own_at_ge HOK.out a ha
    exact ⟨HX.out.not (by have := XW.out.size; omega), Nat.lt_of_lt_of_le h2 g23.size⟩
  have hPr : PartsRd w3 ⟨K', kc', r.H, r.hc⟩ ce := ⟨own_cap HOK.out, hKr, (HP.out.ext xF).1.2.2⟩
  refine ⟨A3, n + 1, c3, rs.take at_ ++ ⟨K', kc', r.H, r.hc⟩ :: rs.drop at_, ?_, rfl, ⟨⟨?_, rd_of_own_s o3, fun i r' c' hr' hc' => ?_⟩, fz_of_own o3 (fun i hi => Nat.lt_of_lt_of_le (HX.out i hi) XW.out.size), fun r' hr' => ?_⟩, xF⟩
  · rw [List.length_append, List.length_take, List.length_cons, List.length_drop, Hl.out]; omega
  · rw [List.length_append, List.length_take, List.length_cons, List.length_drop, List.length_append, List.length_take, List.length_cons, List.length_drop, hlr]
  · have hz : (rs.take at_ ++ (⟨K', kc', r.H, r.hc⟩ : CRef) :: rs.drop at_).zip (l.take at_ ++ ce :: l.drop at_) = (rs.take at_).zip (l.take at_) ++ (⟨K', kc', r.H, r.hc⟩, ce) :: (rs.drop at_).zip (l.drop at_) := by
      rw [List.zip_append (by rw [List.length_take, List.length_take, hlr]), List.zip_cons_cons]
    have hm : (r', c') ∈ (rs.take at_).zip (l.take at_) ++ (⟨K', kc', r.H, r.hc⟩, ce) :: (rs.drop at_).zip (l.drop at_) := by
      rw [← hz]; exact List.mem_of_getElem? (List.getElem?_zip_eq_some.2 ⟨hr', hc'⟩)
    have hall : ∀ p ∈ rs.zip l, PartsRd w3 p.1 p.2 := fun p hp => by
      obtain ⟨j, hj⟩ := List.getElem?_of_mem hp
      obtain ⟨h1, h2⟩ := List.getElem?_zip_eq_some.1 hj
      exact (HE.out.1.2.2 j _ _ h1 h2).ext xF
    rcases List.mem_append.1 hm with h | h
    · refine hall (r', c') ?_
      unfold List.zip at h ⊢
      rw [← List.take_zipWith] at h
      exact List.mem_of_mem_take h
    · rcases List.mem_cons.1 h with h | h
      · injection h with h1 h2
        rw [h1, h2]
        exact hPr
      · refine hall (r', c') ?_
        unfold List.zip at h ⊢
        rw [← List.drop_zipWith] at h
        exact List.mem_of_mem_drop h
  · rcases List.mem_append.1 hr' with h | h
    · exact (HE.out.ext xF).2.2 r' (List.mem_of_mem_take h)
    · rcases List.mem_cons.1 h with h | h
      · rw [h]; exact ⟨hKf, (HP.out.ext xF).2.2⟩
      · exact (HE.out.ext xF).2.2 r' (List.mem_of_mem_drop h)
end

section
open Go.RowKit

theorem info_i64 : (Tryz.prog.info? 2).map (fun i => (i.zero, i.size, i.bytes)) = some (some (.int .i64 0), 1, 8) := by kernel_rfl
theorem size_i64 : ∀ u : World, (sizeOf 2).run Tryz.prog u = .ok 1 u := fun _ => by kernel_rfl
/-- append of numbers onto a list of the call's own -/
theorem app_i64 {ops : Array Oper} {rest : List Oper} {o : Oper} {a : Act} {Q : Exit → Act → World → Prop} (w : World) (hgd : o.guard = none) (s x : Operand)
    (ho : o.op = .call { callee := .builtin .append, args := #[s, x], argTypes := #[60, 60] })
    (base : Nat) {B : Option Addr} {n cb : Nat} {xs : List Int} (hs : a.eval s = .slice B n cb) (hown : w.ownsRow base 2 1 (.slice B n cb) n (ivals xs))
    {A : Option Addr} {m c : Nat} {news : List Int} (hx : a.eval x = .slice A m c) (hl : news.length = m) (hr : Rd w A (ivals news)) (hb : n + m ≤ 17592186044416) (hbase : base ≤ w.heap.size)
    (h : ∀ B' cb' w', w'.ownsRow base 2 1 (.slice B' (n + m) cb') (n + m) (ivals (xs ++ news)) → w.grownBy w' (Value.slice B n cb).ownBlock →
      ((Value.slice B' (n + m) cb').ownBlock = (Value.slice B n cb).ownBlock ∨ (Value.slice B' (n + m) cb').ownBlock = some w.heap.size) → wpList Tryz.prog ops Q rest (a.put o.dst (.slice B' (n + m) cb')) w') :
    wpList Tryz.prog ops Q (o :: rest) a w := by
  obtain ⟨i0, hi, hz0, hz1, hz2⟩ := info_parts info_i64
  refine wpList_append_rd w hgd s x 60 ho base 2 Tryz.underlying60 hi hz0 hz1 hz2 rfl (by decide) hs hown hx (by rw [ivals_len, hl, Nat.mul_one]) hr (ivals_one _) (by unfold maxLen; omega) (by omega) hbase ?_
  intro B' cb' w' h2 h3 h4
  rw [← ivals_append] at h2
  exact h B' cb' w' h2 h3 h4
theorem own0I (w : World) : (w.alloc (.cells #[] 2)).ownsRow w.heap.size 2 1 (.slice (some ⟨w.heap.size, 0, none⟩) 0 0) 0 (ivals []) := own_made w [] 2 1 0 rfl (Nat.zero_le _) (Nat.le_refl _)
def sameI (xs ys : List Int) : Bool := decide (xs = ys)

theorem sameI_len (A B : Option Addr) (n c m d : Nat) (w : World) (h : n ≠ m) :
    Calls Tryz.prog 76 #[.slice A n c, .slice B m d] w (RetQ (.bool false) w) := by
  go_enter Tryz.func76, Tryz.ntmps76
  go_wp2
  go_ret
  exact ⟨rfl, 0, rfl⟩
set_option maxHeartbeats 400000 in
theorem sameI_any' (A B : Option Addr) (n c d : Nat) (xs ys : List Int) (w : World) (hl : xs.length = n) (hl' : ys.length = n) (hn : n ≤ 9223372036854775807) (hr : Rd w A (ivals xs)) (hr' : Rd w B (ivals ys)) :
    Calls Tryz.prog 76 #[.slice A n c, .slice B n d] w (RetQ (.bool (sameI xs ys)) w) := by
  have Hl := Lib.hid hl; have Hr := Lib.hid hr; have Hl' := Lib.hid hl'; have Hr' := Lib.hid hr'; clear hl hr hl' hr'
  go_enter Tryz.func76, Tryz.ntmps76
  go_wp2
  go_loopw [13] (fun i wr => ∃ k q : Nat, k ≤ n ∧ i = .int .i64 k ∧ wr = w.drewN q ∧ xs.take k = ys.take k) (fun i _ => n - (intOf i).toNat)
  case atStart => exact ⟨0, 0, Nat.zero_le _, rfl, rfl, rfl⟩
  case round =>
    obtain ⟨k, q, hk, rfl, rfl, htk⟩ := hrel
    have Htk := Lib.hid htk; clear htk
    by_cases hlt : k < n
    · obtain ⟨x, hx⟩ : ∃ x, Hid (xs.getD k 0 = x) := ⟨_, rfl⟩
      obtain ⟨y, hy⟩ : ∃ y, Hid (ys.getD k 0 = y) := ⟨_, rfl⟩
      obtain ⟨b, off, hA, _, hc⟩ := Hr.out.atI (j := k) (by rw [Hl.out]; exact hlt)
      obtain ⟨b', off', hA', _, hc'⟩ := Hr'.out.atI (j := k) (by rw [Hl'.out]; exact hlt)
      rw [hx.out] at hc; rw [hy.out] at hc'
      subst hA hA'
      by_cases hxy : x = y
      · subst hxy
        go_wp2
        go_quiet (fail)
        go_wp2
        go_roundw
        case rel => exact ⟨k + 1, _, by omega, by go_num, rfl, by rw [take_succI (by rw [Hl.out]; exact hlt), take_succI (by rw [Hl'.out]; exact hlt), Htk.out, hx.out, hy.out]⟩
        case measure => simp [intOf]; omega
      · go_wp2
        go_quiet (fail)
        go_wp2
        go_ret
        exact ⟨ret_bool (Eq.symm (decide_eq_false (by rintro rfl; exact hxy (hx.out.symm.trans hy.out)))), q + nq, drewN_add w q nq⟩
    · go_wp2
      go_ret
      exact ⟨ret_bool (Eq.symm (decide_eq_true (by have h := Htk.out; rwa [List.take_of_length_le (by rw [Hl.out]; omega), List.take_of_length_le (by rw [Hl'.out]; omega)] at h))), q, rfl⟩
theorem sameI_any (A B : Option Addr) (n c m d : Nat) (xs ys : List Int) (w : World) (hl : xs.length = n) (hl' : ys.length = m) (hn : n ≤ 9223372036854775807) (hr : Rd w A (ivals xs)) (hr' : Rd w B (ivals ys)) :
    Calls Tryz.prog 76 #[.slice A n c, .slice B m d] w (RetQ (.bool (sameI xs ys)) w) := by
  by_cases h : n = m
  · subst h
    exact sameI_any' A B n c d xs ys w hl hl' hn hr hr'
  · have e : sameI xs ys = false := decide_eq_false (by rintro rfl; omega)
    rw [e]
    exact sameI_len A B n c m d w h
end

section
open Go.RowKit

theorem serial_any (w : World) (n : Int) : Calls Tryz.prog 291 #[.int .i64 n] w (RetQ (.bool (decide (Ser n))) w) := by
  by_cases h1 : 1 ≤ n
  · by_cases h2 : n ≤ 4611686018427387903
    · go_enter Tryz.func291, Tryz.ntmps291
      go_wp2_with fail
      go_ret
      exact ⟨ret_bool (decide_eq_true (show Ser n from ⟨h1, h2⟩)).symm, 0, rfl⟩
    · go_enter Tryz.func291, Tryz.ntmps291
      go_wp2_with fail
      go_ret
      exact ⟨ret_bool (decide_eq_false (show ¬ Ser n from fun h => by have := h.2; omega)).symm, 0, rfl⟩
  · go_enter Tryz.func291, Tryz.ntmps291
    go_wp2_with fail
    go_ret
    exact ⟨ret_bool (decide_eq_false (show ¬ Ser n from fun h => by have := h.1; omega)).symm, 0, rfl⟩
open Classical in
/-- the code that tells of form -/
noncomputable def formE (p : Int) (xs : List Int) : Int := if Form p xs then 0 else 3
theorem formE_yes {p : Int} {xs : List Int} (h : Form p xs) : formE p xs = 0 := if_pos h
theorem formE_no {p : Int} {xs : List Int} (h : ¬ Form p xs) : formE p xs = 3 := if_neg h
/-- what has been looked at -/
theorem form_no_at {p : Int} {xs : List Int} {k : Nat} (hk : k < xs.length) (h : ¬ okAt xs k) : formE p xs = 3 := formE_no fun hf => h (hf.2.2.2 k hk)
set_option maxHeartbeats 1000000 in
theorem check_any (w : World) (p : Int) (A : Option Addr) (n c : Nat) (xs : List Int) (hl : xs.length = n) (_hn : n ≤ 17592186044416) (hr : Rd w A (ivals xs)) :
    Calls Tryz.prog 283 #[.agg #[.int .i64 p, .slice A n c]] w (RetE (.int .i64 (formE p xs)) w) := by
  by_cases hp : p < 1 ∨ 64 < p ∨ p < n
  · have e : formE p xs = 3 := formE_no fun hf => by obtain ⟨h1, h2, h3, _⟩ := hf; omega
    rw [e]
    by_cases h1 : p < 1
    · clear hp
      go_enter Tryz.func283, Tryz.ntmps283
      go_wp2_with fail
      go_ret
      exact ⟨rfl, (Ext.refl w).alloc _⟩
    · have h1' : ¬ p < 1 := h1
      by_cases h2 : 64 < p
      · clear hp
        go_enter Tryz.func283, Tryz.ntmps283
        go_wp2_with fail
        go_ret
        exact ⟨rfl, (Ext.refl w).alloc _⟩
      · have h3 : p < (n : Int) := by omega
        clear hp
        go_enter Tryz.func283, Tryz.ntmps283
        go_wp2_with fail
        go_ret
        exact ⟨rfl, (Ext.refl w).alloc _⟩
  · have h1 : ¬ p < 1 := by omega
    have h2 : ¬ 64 < p := by omega
    have h3 : ¬ p < (n : Int) := by omega
    have Hl := Lib.hid hl; have Hr := Lib.hid (hr.alloc (.cells #[.int .i64 p, .slice A n c] 369 (0, 0))); clear hl hr hp
    go_enter Tryz.func283, Tryz.ntmps283
    go_wp2_with fail
    go_loopw [3, 25] (fun v i wr => ∃ k q : Nat, k ≤ n ∧ i = .int .i64 (k : Int) ∧ wr = (w.alloc (.cells #[.int .i64 p, .slice A n c] 369 (0, 0))).drewN q ∧ (∀ j, j < k → okAt xs j) ∧ v = .int .i64 (if k = 0 then 0 else xs.getD (k - 1) 0)) (fun _ i _ => n - (intOf i).toNat)
    case atStart => exact ⟨0, 0, Nat.zero_le _, rfl, rfl, fun j hj => by omega, rfl⟩
    case round =>
      obtain ⟨k, q, hk, rfl, rfl, hok, rfl⟩ := hrel
      have Hok := Lib.hid hok; clear hok
      obtain ⟨last, Hlast⟩ : ∃ last, Hid ((if k = 0 then (0 : Int) else xs.getD (k - 1) 0) = last) := ⟨_, rfl⟩
      rw [Hlast.out]
      by_cases hlt : k < n
      · obtain ⟨b, off, hA, _, hc⟩ := (Hr.out.drewN q).atI (j := k) (by rw [Hl.out]; exact hlt)
        obtain ⟨x, Hx⟩ : ∃ x, Hid (xs.getD k 0 = x) := ⟨_, rfl⟩
        rw [Hx.out] at hc
        subst hA
        go_wp2_with fail
        refine (serial_any _ x).mono ?_
        rintro e w1 ⟨rfl, q2, rfl⟩
        by_cases hs : Ser x
        · rw [decide_eq_true hs]
          by_cases hle : x ≤ last
          · go_wp2_with fail
            go_ret
            refine ⟨ret_int (form_no_at (k := k) (by rw [Hl.out]; exact hlt) fun ho => ?_).symm, ((Ext.refl w).alloc _).drewN _⟩
            obtain ⟨o1, o2, o3⟩ := ho
            have h6 := Hlast.out
            rw [Hx.out] at o3
            by_cases hk0 : k = 0
            · rw [if_pos hk0] at h6; have := hs.1; omega
            · rw [if_neg hk0] at h6; have := o3 (by omega); omega
          · go_wp2_with fail
            go_roundw
            case rel =>
              refine ⟨k + 1, q + q2, by omega, by go_num, rfl, fun j hj => ?_, ?_⟩
              · by_cases e1 : j = k
                · rw [e1]
                  refine ⟨by rw [Hx.out]; exact hs.1, by rw [Hx.out]; exact hs.2, fun h0 => ?_⟩
                  have h6 := Hlast.out
                  rw [if_neg (by omega)] at h6
                  rw [Hx.out]; omega
                · exact Hok.out j (by omega)
              · rw [if_neg (by omega), Nat.add_sub_cancel, Hx.out]
            case measure => simp [intOf]; omega
        · rw [decide_eq_false hs]
          go_wp2_with fail
          go_ret
          exact ⟨ret_int (form_no_at (k := k) (by rw [Hl.out]; exact hlt) fun ho => hs ⟨by rw [← Hx.out]; exact ho.1, by rw [← Hx.out]; exact ho.2.1⟩).symm, ((Ext.refl w).alloc _).drewN _⟩
      · go_wp2_with fail
        go_ret
        refine ⟨ret_int (formE_yes ⟨by omega, by omega, by rw [Hl.out]; omega, fun j hj => Hok.out j (by rw [Hl.out] at hj; omega)⟩).symm, ((Ext.refl w).alloc _).drewN _⟩
end

section
open Go.RowKit

theorem less_any (w : World) (x t : Int) : Calls Tryz.prog 293 #[.int .i64 x, .int .i64 t] w (RetE (.bool (decide (x < t))) w) := by
  by_cases h : x < t
  · rw [decide_eq_true h]
    go_enter Tryz.func293, Tryz.ntmps293
    go_wp2
    go_ret
    exact ⟨rfl, Ext.refl w⟩
  · rw [decide_eq_false h]
    go_enter Tryz.func293, Tryz.ntmps293
    go_wp2
    go_ret
    exact ⟨rfl, Ext.refl w⟩
set_option maxHeartbeats 1000000 in
theorem search_any (w : World) (t : Int) (A : Option Addr) (n c : Nat) (xs : List Int) (hl : xs.length = n) (hn : n ≤ 17592186044416) (hr : Rd w A (ivals xs)) (hg : GoodL xs) (at_ : Nat) (ha : At xs t at_) :
    Calls Tryz.prog 284 #[.slice A n c, .int .i64 t] w (RetE (.tuple #[.int .i64 (at_ : Int), .bool (decide (t ∈ xs))]) w) := by
  have Hl := Lib.hid hl; have Hr := Lib.hid hr; have Ha := Lib.hid ha; have Hg := Lib.hid hg
  have Hm := Lib.hid (at_mem ha hg)
  clear hl hr ha hg
  go_enter Tryz.func284, Tryz.ntmps284
  go_wp2
  go_loopw [7, 8] (fun i j wr => ∃ a b : Nat, a ≤ at_ ∧ at_ ≤ b ∧ b ≤ n ∧ i = .int .i64 (a : Int) ∧ j = .int .i64 (b : Int) ∧ Ext w wr) (fun i j _ => (intOf j).toNat - (intOf i).toNat)
  case atStart => exact ⟨0, n, Nat.zero_le _, by have := Ha.out.1; rw [Hl.out] at this; exact this, Nat.le_refl _, rfl, rfl, Ext.refl w⟩
  case round =>
    obtain ⟨a, b, h1, h2, h3, rfl, rfl, hx⟩ := hrel
    by_cases hlt : a < b
    · obtain ⟨h, Hh⟩ : ∃ h, Hid ((a + b) / 2 = h) := ⟨_, rfl⟩
      have hh1 : a ≤ h := by have := Hh.out; omega
      have hh2 : h < b := by have := Hh.out; omega
      have hh3 : h < n := by omega
      have hw1 : IntKind.i64.wrap ((a : Int) + (b : Int)) = (a : Int) + (b : Int) := by rw [IntKind.wrap_i64]; omega
      have hw2 : IntKind.u64.wrap ((a : Int) + (b : Int)) = (a : Int) + (b : Int) := by rw [IntKind.wrap_u64]; omega
      obtain ⟨bb, off, hA, _, hc⟩ := (Hr.out.ext hx).atI (j := h) (by rw [Hl.out]; omega)
      obtain ⟨x, Hx⟩ : ∃ x, Hid (xs.getD h 0 = x) := ⟨_, rfl⟩
      rw [Hx.out] at hc
      subst hA
      have hq : ((a : Int) + (b : Int)) / 2 = (h : Int) := by have := Hh.out; omega
      go_upto_region 5 with fail
      clear hq hw1 hw2
      go_wp2_with fail
      refine (less_any wr x t).mono ?_
      rintro e w1 ⟨rfl, hy⟩
      by_cases hxt : x < t
      · rw [decide_eq_true hxt]
        have Hxt := Lib.hid hxt; clear hxt
        have hah : h < at_ := by
          refine Nat.lt_of_not_le fun hle => ?_
          have k1 := Ha.out.2.2 h hle (by rw [Hl.out]; exact hh3)
          have k2 := Hx.out
          have k3 := Hxt.out
          omega
        go_wp2_with fail
        go_roundw
        case rel => exact ⟨h + 1, b, by omega, by omega, by omega, by go_num, rfl, hx.trans hy⟩
        case measure => simp [intOf]; omega
      · rw [decide_eq_false hxt]
        have Hxt := Lib.hid hxt; clear hxt
        have hah : at_ ≤ h := by
          refine Nat.le_of_not_lt fun hle => ?_
          have k1 := Ha.out.2.1 h hle
          have k2 := Hx.out
          have k3 := Hxt.out
          omega
        go_wp2_with fail
        go_roundw
        case rel => exact ⟨a, h, by omega, by omega, by omega, rfl, rfl, hx.trans hy⟩
        case measure => simp [intOf]; omega
    · obtain rfl : a = at_ := by omega
      by_cases hlt2 : a < n
      · obtain ⟨bb, off, hA, _, hc⟩ := (Hr.out.ext hx).atI (j := a) (by rw [Hl.out]; omega)
        obtain ⟨x, Hx⟩ : ∃ x, Hid (xs.getD a 0 = x) := ⟨_, rfl⟩
        rw [Hx.out] at hc
        subst hA
        by_cases hxt : x = t
        · have hb : (x == t) = true := by simp [hxt]
          have Hxt := Lib.hid hxt; clear hxt
          go_wp2
          go_ret2
          exact ⟨ret_t2 rfl (bool_eq (decide_eq_true (Hm.out.2 ⟨by rw [Hl.out]; exact hlt2, by rw [Hx.out, Hxt.out]⟩)).symm), hx⟩
        · have hb : (x == t) = false := by simp [hxt]
          have Hxt := Lib.hid hxt; clear hxt
          go_wp2
          go_ret2
          exact ⟨ret_t2 rfl (bool_eq (decide_eq_false fun hm => Hxt.out (by rw [← Hx.out]; exact (Hm.out.1 hm).2)).symm), hx⟩
      · go_wp2
        go_ret2
        exact ⟨ret_t2 rfl (bool_eq (decide_eq_false fun hm => by have := (Hm.out.1 hm).1; rw [Hl.out] at this; omega).symm), hx⟩
/-- nil is answered nil; else new memory -/
def RetI (base : Nat) (xs : List Int) (w : World) (e : Ending) (w' : World) : Prop :=
  ∃ A c, e = .returned (.slice A xs.length c) ∧ w'.ownsRow base 2 1 (.slice A xs.length c) xs.length (ivals xs) ∧ Ext w w'
theorem nilqI (w : World) (A : Option Addr) (n c n' c' : Nat) : (binOp .eql 60 (.slice A n c) (.slice none n' c')).run Tryz.prog w = .ok (.bool A.isNone) w := Lib.run_eql_slice_nil w _ _ A n c n' c' Tryz.underlying60
set_option maxHeartbeats 400000 in
theorem iclone_any (A : Option Addr) (n c : Nat) (xs : List Int) (w : World) (hl : xs.length = n) (hn : n ≤ 17592186044416) (hr : Rd w A (ivals xs)) :
    Calls Tryz.prog 165 #[.slice A n c] w (RetI w.heap.size xs w) := by
  have Hl := Lib.hid hl
  have Hr := Lib.hid hr
  have q := nilqI
  cases A with
  | none =>
    have h0 : xs = [] := by
      refine Classical.byContradiction fun h => ?_
      obtain ⟨b, off, hA, _⟩ := hr (fun e => h (by simpa [ivals] using e))
      cases hA
    subst h0
    clear hl hr
    obtain rfl : n = 0 := by have := Hl.out; simpa using this.symm
    go_enter Tryz.func165, Tryz.ntmps165
    go_wp2
    go_ret
    exact ⟨none, 0, rfl, World.ownsRow_nil _ _ _ _, Ext.refl w⟩
  | some a =>
    clear hl hr
    go_enter Tryz.func165, Tryz.ntmps165
    go_wp2_with (at_builtin; refine app_i64 _ rfl (.tmp 5) (.tmp 6) rfl w.heap.size rfl (own0I w) rfl Hl.out (Hr.out.alloc _) (by omega) (by simp) ?_; intro A' c' w1 hown hgrow _; simp only [Nat.zero_add, List.nil_append] at hown)
    go_ret
    rw [← Hl.out] at hown ⊢
    exact ⟨A', c', rfl, hown, ((Ext.refl w).alloc _).grown hgrow (by simp [Value.ownBlock])⟩
end

section
open Go.RowKit

def InsR (base : Nat) (A : Option Addr) (n c : Nat) (xs : List Int) (k : Nat) (t : Int) (w : World) (e : Ending) (w' : World) : Prop :=
  ∃ A' c', e = .returned (.slice A' (n + 1) c') ∧ w'.ownsRow base 2 1 (.slice A' (n + 1) c') (n + 1) (ivals (insL xs k t)) ∧ w.grownBy w' (Value.slice A n c).ownBlock
theorem rd_oneI {w : World} {vb : Nat} {t : Int} (h : w.heap[vb]? = some (.cells #[.int .i64 t] 2 (0, 0))) : Rd w (some ⟨vb, 0, none⟩) (ivals [t]) := fun _ => ⟨vb, 0, rfl, fun j u hu => by
  cases j with
  | zero => rw [blk_cell h 0]; exact hu
  | succ j => simp [ivals] at hu⟩
set_option maxHeartbeats 4000000 in
theorem insert_end (w : World) (base : Nat) (A : Option Addr) (n c vb : Nat) (xs : List Int) (t : Int) (hl : xs.length = n) (hn : n ≤ 1000) (ho : w.ownsRow base 2 1 (.slice A n c) n (ivals xs)) (hv : w.heap[vb]? = some (.cells #[.int .i64 t] 2 (0, 0))) (hbase : base ≤ w.heap.size) :
    Calls Tryz.prog 292 #[.slice A n c, .int .i64 (n : Int), .slice (some ⟨vb, 0, none⟩) 1 1] w (InsR base A n c xs n t w) := by
  have hnc := own_cap ho
  have Ho := Lib.hid ho; have R := Lib.hid (rd_oneI hv); have Hl := Lib.hid hl
  clear ho hv hl
  obtain ⟨A0, hsl, _, _⟩ := slice_from_any Tryz.underlying60 size_i64 (A := A) (n := n) (c := c) (m := 0) (d := c - n) n (ki := (n : Int)) rfl hnc (by omega) (by omega)
  go_enter Tryz.func292, Tryz.ntmps292
  go_wp2_with (at_builtin; refine app_i64 _ rfl (.tmp 23) (.tmp 24) rfl base rfl Ho.out rfl (m := 1) (news := [t]) rfl R.out (by omega) hbase ?_; intro A' c' w1 hown hgrow _)
  go_ret
  refine ⟨A', c', rfl, ?_, hgrow⟩
  have e : insL xs n t = xs ++ [t] := by
    unfold insL
    rw [List.take_of_length_le (by rw [Hl.out]; exact Nat.le_refl _), List.drop_of_length_le (by rw [Hl.out]; exact Nat.le_refl _)]
  rw [e]
  exact hown
theorem info1 : (Tryz.prog.info? 2).map (·.size) = some 1 := by kernel_rfl
theorem ivals_ins (xs : List Int) (k : Nat) (t : Int) : ivals (insL xs k t) = (ivals xs).take k ++ ([.int .i64 t] ++ (ivals xs).drop k) := by
  simp [ivals, insL, List.map_take, List.map_drop]
set_option maxHeartbeats 4000000 in
set_option maxRecDepth 100000 in
theorem insert_room (w : World) (base : Nat) (A : Option Addr) (n c vb k : Nat) (xs : List Int) (t : Int) (hl : xs.length = n) (hn : n ≤ 1000) (hk : k < n) (hc : n < c) (hcm : c ≤ 9223372036854775807) (ho : w.ownsRow base 2 1 (.slice A n c) n (ivals xs)) (hv : w.heap[vb]? = some (.cells #[.int .i64 t] 2 (0, 0))) (hne : (Value.slice A n c).ownBlock ≠ some vb) :
    Calls Tryz.prog 292 #[.slice A n c, .int .i64 (k : Int), .slice (some ⟨vb, 0, none⟩) 1 1] w (InsR base A n c xs k t w) := by
  obtain ⟨g, rfl, hg1, hg2⟩ := own_some ho (by omega)
  have hgv : vb ≠ g := fun e => hne (by simp [Value.ownBlock, e])
  obtain ⟨u, hm⟩ := own_more ho hc
  have hshg : ∃ k', w.shape? g = some (2, k') ∧ k' ≠ 0 := by
    rcases ho.2 with ⟨h1, _⟩ | ⟨g', cap, cur, h1, _, hg, _, _, hcs, _⟩
    · injection h1 with h1; cases h1
    · injection h1 with h1 h3 h4
      injection h1 with h1
      injection h1 with h1
      subst h1
      refine ⟨cur.size, ?_, by omega⟩
      simp [World.shape?, hg]
  obtain ⟨kB, hsb, hkB⟩ := hshg
  have hsa : w.shape? vb = some (2, 1) := by simp [World.shape?, hv]
  have hov : ∀ lb cb, (callFunc 297 #[.slice (some ⟨vb, 0, none⟩) 1 1, .slice (some ⟨g, k + 1, none⟩) lb cb]).run Tryz.prog w = .ok (.value (.bool false)) w := fun lb cb => by
    rw [run_callFunc_extern Tryz.func297 (by kernel_rfl) (by kernel_rfl) (by kernel_rfl) (e := Extern.SlicesOverlaps.overlaps #[60, 60] #[4]) (by kernel_rfl),
      Lib.run_overlaps_apart w 60 4 2 Tryz.underlying60 1 size_i64 ⟨vb, 0, none⟩ ⟨g, k + 1, none⟩ 1 1 lb cb hgv 2 2 1 kB hsa hsb hkB (blk_frozen hv 0) (blk_frozen hv 1)]
    rfl
  have hlen : (ivals xs ++ [u]).length = n + 1 := by simp [ivals_len, hl]
  have hdl : ((ivals xs).drop k).length = n - k := by rw [List.length_drop, ivals_len, hl]
  have hcell : ∀ j, j < n + 1 → w.cell? ⟨g, j, none⟩ = (ivals xs ++ [u])[j]? := fun j hj => hm.cellAt j (by omega)
  have hsome : ∀ j, j < n + 1 → (w.cell? ⟨g, j, none⟩).isSome = true := fun j hj => by rw [hcell j hj, List.getElem?_eq_getElem (by omega)]; rfl
  have hfz : ∀ j, w.frozen? ⟨g, j, none⟩ = false := fun j => hm.frozenAt j
  have hcp1 : ∀ ty dc sc, (Builtin.copy_ #[60, 60] ty #[.slice (some ⟨g, k + 1, none⟩) (n - k) dc, .slice (some ⟨g, k, none⟩) (n + 1 - k) sc]).run Tryz.prog w.drew = .ok (goInt ((ivals xs).drop k).length) (w.drew.setCells g (k + 1) ((ivals xs).drop k)) := fun ty dc sc =>
    run_copy_cells w.drew _ _ ty 2 g (k + 1) (n - k) dc ⟨g, k, none⟩ (n + 1 - k) sc _ Tryz.underlying60 info1 (by rw [hdl]; simp only [Nat.min_def]; split <;> omega)
      (fun j v hj => by
        rw [Addr.add_lit]
        have hjl : j < n - k := by rw [← hdl]; exact (List.getElem?_eq_some_iff.1 hj).1
        refine (hcell (k + j) (by omega)).trans ?_
        rw [List.getElem?_append_left (by rw [ivals_len, hl]; omega), ← hj, List.getElem?_drop])
      (fun j hj => hsome _ (by rw [hdl] at hj; omega)) (fun j _ => hfz _) (fun v hv => ivals_one xs v (List.mem_of_mem_drop hv))
  obtain ⟨W1, hW1⟩ : ∃ W1, w.drew.setCells g (k + 1) ((ivals xs).drop k) = W1 := ⟨_, rfl⟩
  have hp1 := own_put ((ivals xs).drop k) w.drew _ (k + 1) hm.drew
  rw [hW1] at hp1 hcp1
  obtain ⟨hm1, hG1⟩ := hp1
  have hput1 : putAt (ivals xs ++ [u]) (k + 1) ((ivals xs).drop k) = (ivals xs ++ [u]).take (k + 1) ++ (ivals xs).drop k := by
    rw [putAt_eq _ _ _ (by rw [hlen, hdl]; omega), show (ivals xs ++ [u]).drop (k + 1 + ((ivals xs).drop k).length) = [] from List.drop_of_length_le (by rw [hlen, hdl]; omega), List.append_nil]
  have hvW : W1.heap[vb]? = some (.cells #[.int .i64 t] 2 (0, 0)) := blk_grown (show w.drew.heap[vb]? = _ from hv) hG1 hgv
  have hlen1 : (putAt (ivals xs ++ [u]) (k + 1) ((ivals xs).drop k)).length = n + 1 := by rw [hput1]; simp [ivals_len, hl]; omega
  have hcp2 : ∀ ty dc, (Builtin.copy_ #[60, 60] ty #[.slice (some ⟨g, k, none⟩) (n + 1 - k) dc, .slice (some ⟨vb, 0, none⟩) 1 1]).run Tryz.prog W1 = .ok (goInt ([Value.int .i64 t]).length) (W1.setCells g k [.int .i64 t]) := fun ty dc =>
    run_copy_cells W1 _ _ ty 2 g k (n + 1 - k) dc ⟨vb, 0, none⟩ 1 1 [.int .i64 t] Tryz.underlying60 info1 (by simp only [Nat.min_def, List.length_singleton]; split <;> omega)
      (fun j v hj => by
        cases j with
        | zero => rw [Addr.add_lit]; exact (blk_cell hvW 0).trans (by simpa using hj)
        | succ j => simp at hj)
      (fun j hj => by
        have hj0 : j = 0 := by simpa using hj
        subst hj0
        rw [hm1.cellAt (k + 0) (by omega), List.getElem?_eq_getElem (by omega)]; rfl)
      (fun j _ => hm1.frozenAt _) (by intro v hv; simp at hv; subst hv; rfl)
  have hp2 := own_put [.int .i64 t] W1 _ k hm1
  obtain ⟨W2, hW2⟩ : ∃ W2, W1.setCells g k [.int .i64 t] = W2 := ⟨_, rfl⟩
  rw [hW2] at hp2 hcp2
  have hfin : putAt (putAt (ivals xs ++ [u]) (k + 1) ((ivals xs).drop k)) k [.int .i64 t] = ivals (insL xs k t) := by
    rw [putAt_eq _ _ _ (by rw [hlen1]; simp; omega), hput1, ivals_ins]
    have h1 : ((ivals xs ++ [u]).take (k + 1) ++ (ivals xs).drop k).take k = (ivals xs).take k := by
      rw [List.take_append_of_le_length (by simp [ivals_len, hl]; omega), List.take_take, Nat.min_eq_left (by omega), List.take_append_of_le_length (by rw [ivals_len, hl]; omega)]
    have h2 : ((ivals xs ++ [u]).take (k + 1) ++ (ivals xs).drop k).drop (k + 1) = (ivals xs).drop k := List.drop_left' (by simp [ivals_len, hl]; omega)
    rw [h1, List.length_singleton, h2]
  have Fin := Lib.hid (show InsR base (some ⟨g, 0, none⟩) n c xs k t w (.returned (.slice (some ⟨g, 0, none⟩) (n + 1) c)) W2 from ⟨_, _, rfl, by rw [← hfin]; exact hp2.1, World.grown_trans (grown_undrew hG1) hp2.2⟩)
  have HW1 := Lib.hid hW1; have HW2 := Lib.hid hW2
  clear hp2 hfin hm hm1 hG1 hput1 hlen1 hsome hcell hfz hsa hsb hkB hlen hdl ho hv hvW hl hW1 hW2 hg1 hg2 hne hgv
  have hw1 : IntKind.i64.wrap ((k : Int) + 1) = (k : Int) + 1 := by rw [IntKind.wrap_i64]; omega
  have hw2 : IntKind.i64.wrap ((n : Int) + 1) = (n : Int) + 1 := by rw [IntKind.wrap_i64]; omega
  have hz2 : ¬ ((k : Int) = (n : Int)) := by omega
  have hb1 : (0 : Int) ≤ (k : Int) + 1 := by omega
  have hin : k ≤ n := by omega
  have htn : ((k : Int) + 1).toNat = k + 1 := by omega
  have htn2 : ((n : Int) + 1).toNat = n + 1 := by omega
  have hb0 : (0 : Int) ≤ (n : Int) + 1 := by omega
  have hb2 : ¬ (c = k + 1) := by omega
  have hb3 : (k : Int) ≤ (n : Int) + 1 := by omega
  have hb4 : ¬ (c = k) := by omega
  have hb5 : ¬ ((c : Int) < (n : Int) + 1) := by omega
  have hb6 : (n : Int) + 1 ≤ (c : Int) := by omega
  have mixed : Tryz.prog.follows Departure.mixedOrders = true := by kernel_rfl
  go_enter Tryz.func292, Tryz.ntmps292
  go_wp2_with (simp only [hov])
  go_region_law_o (refine step_copy_runI rfl _ _ 60 60 rfl _ _ (by simp [Act.eval, Act.put]) (by simp [Act.eval, Act.put]) (hcp1 _ _ _) ?_)
  go_wp2_with (at_builtin; refine wpList_copy_runI _ rfl _ _ 60 60 rfl _ _ rfl rfl (hcp2 _ _) ?_)
  go_ret
  exact Fin.out
end

section
open Go.RowKit

set_option maxHeartbeats 4000000 in
set_option maxRecDepth 100000 in
theorem insert_grow (w : World) (base : Nat) (A : Option Addr) (n c vb k : Nat) (xs : List Int) (t : Int) (hl : xs.length = n) (hn : n ≤ 1000) (hk : k < n) (hnc : n ≤ c) (hc : c < n + 1) (ho : w.ownsRow base 2 1 (.slice A n c) n (ivals xs)) (hv : w.heap[vb]? = some (.cells #[.int .i64 t] 2 (0, 0))) (hbase : base ≤ w.heap.size) :
    Calls Tryz.prog 292 #[.slice A n c, .int .i64 (k : Int), .slice (some ⟨vb, 0, none⟩) 1 1] w (InsR base A n c xs k t w) := by
  obtain ⟨g, rfl, hg1, hg2⟩ := own_some ho (by omega)
  obtain ⟨i0, hi0, hz0, hzs, hzb⟩ := info_parts info_i64
  have hdl : ((ivals xs).drop k).length = n - k := by rw [List.length_drop, ivals_len, hl]
  have htl : ((ivals xs).take k).length = k := by rw [List.length_take, ivals_len, hl]; omega
  have hcell : ∀ j, j < n → w.cell? ⟨g, j, none⟩ = (ivals xs)[j]? := fun j hj => ho.cellAt j (by omega)
  have hold : (Builtin.firstCells i0.size k (.slice (some ⟨g, 0, none⟩) k c)).run Tryz.prog w.drew = .ok ((ivals xs).take k).toArray w.drew := by
    rw [hzs]
    exact run_firstCells_some w.drew 1 k ⟨g, 0, none⟩ k c ((ivals xs).take k) (by rw [htl]; omega) (fun j v hj => by
      rw [Addr.add_lit, Nat.zero_add]
      have hjk : j < k := by rw [← htl]; exact (List.getElem?_eq_some_iff.1 hj).1
      rw [List.getElem?_take, if_pos hjk] at hj
      exact (hcell j (by omega)).trans hj)
  obtain ⟨G, hG⟩ : ∃ G, grownCap w (n + 1) c 2 = G := ⟨_, rfl⟩
  obtain ⟨ROW, hROW⟩ : ∃ ROW : Array Value, ((ivals xs).take k).toArray ++ Builtin.zeroCells (Value.int .i64 0).cells (n + 1 - k) ++ Builtin.zeroCells (Value.int .i64 0).cells (G - (n + 1)) = ROW := ⟨_, rfl⟩
  have hGn : n + 1 ≤ G := by rw [← hG]; exact grownCap_ge w _ _ _
  have hGm : G ≤ maxLen := by rw [← hG]; exact grownCap_le_maxLen w (n + 1) c 2 (by unfold maxLen; omega)
  have hG63 : G ≤ 9223372036854775807 := by unfold maxLen at hGm; omega
  have hRs : ROW.size = G := by
    rw [← hROW]
    simp [Builtin.zeroCells, Value.cells, ivals_len, hl]
    omega
  obtain ⟨W1, hW1⟩ : ∃ W1, w.drew.alloc (.cells ROW 2) = W1 := ⟨_, rfl⟩
  have hkk : (n : Int) + 1 - (k : Int) = ((n + 1 - k : Nat) : Int) := by omega
  have hrz : ∀ ty, (Builtin.append_ #[60, 3] ty #[.slice (some ⟨g, 0, none⟩) k c, .int .i64 ((n : Int) + 1 - (k : Int))]).run Tryz.prog w = .ok (.slice (some ⟨w.heap.size, 0, none⟩) (n + 1) G) W1 := fun ty => by
    have h := Lib.run_append_grow_zeros w 60 3 ty 2 i0 _ .i64 .i64 Tryz.underlying60 Tryz.underlying3 hi0 hz0 (some ⟨g, 0, none⟩) k c ((ivals xs).take k) hold (n + 1 - k) (by omega) (by omega) (by omega) (by omega) (by rw [hzb]; omega) (by rw [hzb, show k + (n + 1 - k) = n + 1 by omega]; exact growslice_fits hc (by omega))
    rw [show k + (n + 1 - k) = n + 1 by omega, hG, hROW, hW1] at h
    rw [hkk]
    exact h
  have hO : W1.ownsRow base 2 1 (.slice (some ⟨w.heap.size, 0, none⟩) (n + 1) G) (n + 1) (ROW.toList.take (n + 1)) := by
    have h := own_made w.drew ROW.toList 2 1 G (by rw [Nat.mul_one]; simpa using hRs) hGm (base := base) hbase
    rw [show ROW.toList.toArray = ROW by simp, hW1] at h
    exact own_sub h hGn
  have hRl : (ROW.toList.take (n + 1)).length = n + 1 := by rw [List.length_take]; simp [hRs]; omega
  have hRt : (ROW.toList.take (n + 1)).take k = (ivals xs).take k := by
    rw [List.take_take, Nat.min_eq_left (by omega), ← hROW]
    simp only [Array.toList_append, List.append_assoc]
    exact List.take_left' htl
  have hE1 : Ext w W1 := by rw [← hW1]; exact ((Ext.refl w).drew).alloc _
  have hv1 := blk_ext hv hE1
  have hcp1 : ∀ ty dc, (Builtin.copy_ #[60, 60] ty #[.slice (some ⟨w.heap.size, k, none⟩) (n + 1 - k) dc, .slice (some ⟨vb, 0, none⟩) 1 1]).run Tryz.prog W1 = .ok (goInt ([Value.int .i64 t]).length) (W1.setCells w.heap.size k [.int .i64 t]) := fun ty dc =>
    run_copy_cells W1 _ _ ty 2 w.heap.size k (n + 1 - k) dc ⟨vb, 0, none⟩ 1 1 [.int .i64 t] Tryz.underlying60 info1 (by simp only [Nat.min_def, List.length_singleton]; split <;> omega)
      (fun j v hj => by
        cases j with
        | zero => rw [Addr.add_lit]; exact (blk_cell hv1 0).trans (by simpa using hj)
        | succ j => simp at hj)
      (fun j hj => by
        have hj0 : j = 0 := by simpa using hj
        subst hj0
        rw [hO.cellAt (k + 0) (by omega), List.getElem?_eq_getElem (by omega)]; rfl)
      (fun j _ => hO.frozenAt _) (by intro v hv; simp at hv; subst hv; rfl)
  have hp1 := own_put [.int .i64 t] W1 _ k hO
  obtain ⟨W2, hW2⟩ : ∃ W2, W1.setCells w.heap.size k [.int .i64 t] = W2 := ⟨_, rfl⟩
  rw [hW2] at hp1 hcp1
  obtain ⟨hm1, hG1⟩ := hp1
  have hput1 : putAt (ROW.toList.take (n + 1)) k [.int .i64 t] = (ivals xs).take k ++ ([.int .i64 t] ++ (ROW.toList.take (n + 1)).drop (k + 1)) := by
    rw [putAt_eq _ _ _ (by rw [hRl]; simp; omega), hRt]
    rfl
  have hlen1 : (putAt (ROW.toList.take (n + 1)) k [.int .i64 t]).length = n + 1 := by rw [hput1]; simp [ivals_len, hl, hRl]; omega
  have hgN : g ≠ w.heap.size := by omega
  have hsrc : ∀ j, j < n → W2.cell? ⟨g, j, none⟩ = (ivals xs)[j]? := fun j hj => by
    have hc1 : w.cell? ⟨g, j, none⟩ = some ((ivals xs)[j]'(by rw [ivals_len, hl]; exact hj)) := by rw [hcell j hj, List.getElem?_eq_getElem]
    have hc2 := ext_cell hE1 hc1
    rw [List.getElem?_eq_getElem (by rw [ivals_len, hl]; exact hj)]
    exact (World.cell?_of_block (hG1.block g (World.block_lt_of_cell? W1 ⟨g, j, none⟩ hc2) (fun q => hgN (by injection q)))).trans hc2
  have hcp2 : ∀ ty dc sc, (Builtin.copy_ #[60, 60] ty #[.slice (some ⟨w.heap.size, k + 1, none⟩) (n - k) dc, .slice (some ⟨g, k, none⟩) (n - k) sc]).run Tryz.prog W2.drew = .ok (goInt ((ivals xs).drop k).length) (W2.drew.setCells w.heap.size (k + 1) ((ivals xs).drop k)) := fun ty dc sc =>
    run_copy_cells W2.drew _ _ ty 2 w.heap.size (k + 1) (n - k) dc ⟨g, k, none⟩ (n - k) sc _ Tryz.underlying60 info1 (by rw [hdl]; simp only [Nat.min_def]; split <;> omega)
      (fun j v hj => by
        rw [Addr.add_lit]
        have hjl : j < n - k := by rw [← hdl]; exact (List.getElem?_eq_some_iff.1 hj).1
        refine (hsrc (k + j) (by omega)).trans ?_
        rw [← hj, List.getElem?_drop])
      (fun j hj => by
        rw [hdl] at hj
        show (W2.cell? _).isSome = true
        rw [hm1.cellAt _ (by omega), List.getElem?_eq_getElem (by omega)]; rfl)
      (fun j _ => hm1.frozenAt _) (fun v hv => ivals_one xs v (List.mem_of_mem_drop hv))
  have hp2 := own_put ((ivals xs).drop k) W2.drew _ (k + 1) hm1.drew
  obtain ⟨W3, hW3⟩ : ∃ W3, W2.drew.setCells w.heap.size (k + 1) ((ivals xs).drop k) = W3 := ⟨_, rfl⟩
  rw [hW3] at hp2 hcp2
  have hfin : putAt (putAt (ROW.toList.take (n + 1)) k [.int .i64 t]) (k + 1) ((ivals xs).drop k) = ivals (insL xs k t) := by
    rw [putAt_eq _ _ _ (by rw [hlen1, hdl]; omega), ivals_ins]
    rw [show (putAt (ROW.toList.take (n + 1)) k [.int .i64 t]).drop (k + 1 + ((ivals xs).drop k).length) = [] from List.drop_of_length_le (by rw [hlen1, hdl]; omega), List.append_nil, hput1]
    have h1 : ((ivals xs).take k ++ (([.int .i64 t] : List Value) ++ (ROW.toList.take (n + 1)).drop (k + 1))).take (k + 1) = (ivals xs).take k ++ [.int .i64 t] := by
      rw [← List.append_assoc]
      exact List.take_left' (by rw [List.length_append, htl]; rfl)
    rw [h1, List.append_assoc]
  have Fin := Lib.hid (show InsR base (some ⟨g, 0, none⟩) n c xs k t w (.returned (.slice (some ⟨w.heap.size, 0, none⟩) (n + 1) G)) W3 from ⟨_, _, rfl, by rw [← hfin]; exact hp2.1, grown_new (grown_drew (grown_new (grown_none hE1 _) hG1 (Nat.le_refl _))) hp2.2 (Nat.le_refl _)⟩)
  clear hp2 hfin hm1 hG1 hput1 hlen1 hsrc hO hRl hRt hE1 hv1 hRs hROW hG hkk hold hcell hdl htl ho hv hl hW1 hW2 hW3 hg1 hGm hi0 hz0 hzs hzb
  have hw1 : IntKind.i64.wrap ((k : Int) + 1) = (k : Int) + 1 := by rw [IntKind.wrap_i64]; omega
  have hw2 : IntKind.i64.wrap ((n : Int) + 1) = (n : Int) + 1 := by rw [IntKind.wrap_i64]; omega
  have hw3 : IntKind.i64.wrap ((n : Int) + 1 - (k : Int)) = (n : Int) + 1 - (k : Int) := by rw [IntKind.wrap_i64]; omega
  have hz2 : ¬ ((k : Int) = (n : Int)) := by omega
  have hb1 : (0 : Int) ≤ (k : Int) + 1 := by omega
  have hin : k ≤ n := by omega
  have htn : ((k : Int) + 1).toNat = k + 1 := by omega
  have hb2 : ¬ (G = k + 1) := by omega
  have hb3 : (k : Int) ≤ (n : Int) + 1 := by omega
  have hb4 : ¬ (c = k) := by omega
  have hb7 : ¬ (G = k) := by omega
  have hb5 : (c : Int) < (n : Int) + 1 := by omega
  have hb6 : (k : Int) ≤ (c : Int) := by omega
  have mixed : Tryz.prog.follows Departure.mixedOrders = true := by kernel_rfl
  go_enter Tryz.func292, Tryz.ntmps292
  go_wp2_with (first
    | (at_builtin; refine Lib.wpList_append_run _ rfl _ _ _ _ rfl _ _ rfl rfl _ _ (hrz _) ?_)
    | (at_builtin; refine wpList_copy_runI _ rfl _ _ 60 60 rfl _ _ rfl rfl (hcp1 _ _) ?_))
  go_region_law_o (refine step_copy_runI rfl _ _ 60 60 rfl _ _ (by simp [Act.eval, Act.put]) (by simp [Act.eval, Act.put]) (hcp2 _ _ _) ?_)
  go_wp2
  go_ret
  exact Fin.out
/-- slices.Insert of one number -/
theorem insert_any (w : World) (base : Nat) (A : Option Addr) (n c vb k : Nat) (xs : List Int) (t : Int) (hl : xs.length = n) (hn : n ≤ 1000) (hk : k ≤ n) (ho : w.ownsRow base 2 1 (.slice A n c) n (ivals xs)) (hv : w.heap[vb]? = some (.cells #[.int .i64 t] 2 (0, 0))) (hne : (Value.slice A n c).ownBlock ≠ some vb) (hbase : base ≤ w.heap.size) :
    Calls Tryz.prog 292 #[.slice A n c, .int .i64 (k : Int), .slice (some ⟨vb, 0, none⟩) 1 1] w (InsR base A n c xs k t w) := by
  have hnc := own_cap ho
  by_cases h1 : k = n
  · subst h1
    exact insert_end w base A k c vb xs t hl hn ho hv hbase
  · by_cases h2 : n < c
    · have hcm : c ≤ 9223372036854775807 := by
        rcases ho.2 with ⟨h3, h4⟩ | ⟨g, cap, cur, h3, _, _, _, h4, _⟩
        · omega
        · injection h3 with _ _ h3
          unfold maxLen at h4
          omega
      exact insert_room w base A n c vb k xs t hl hn (by omega) h2 hcm ho hv hne
    · exact insert_grow w base A n c vb k xs t hl hn (by omega) hnc (by omega) ho hv hbase
end

section
open Go.RowKit

def DelR (base : Nat) (A : Option Addr) (n c : Nat) (xs : List Int) (k : Nat) (w : World) (e : Ending) (w' : World) : Prop :=
  e = .returned (.slice A (n - 1) c) ∧ w'.ownsRow base 2 1 (.slice A (n - 1) c) (n - 1) (ivals (delL xs k)) ∧ w.grownBy w' (Value.slice A n c).ownBlock
theorem zero_i64 : ∀ w : World, (zeroValue 2).run Tryz.prog w = .ok (.int .i64 0) w := fun _ => by kernel_rfl
set_option maxHeartbeats 4000000 in
set_option maxRecDepth 100000 in
theorem delete_any (w : World) (base : Nat) (A : Option Addr) (n c k : Nat) (xs : List Int) (hl : xs.length = n) (hn : n ≤ 1000) (hk : k < n) (ho : w.ownsRow base 2 1 (.slice A n c) n (ivals xs)) :
    Calls Tryz.prog 285 #[.slice A n c, .int .i64 (k : Int), .int .i64 ((k : Int) + 1)] w (DelR base A n c xs k w) := by
  have hnc := own_cap ho
  obtain ⟨g, rfl, hg1, hg2⟩ := own_some ho (by omega)
  have hcm : c ≤ 9223372036854775807 := by
    rcases ho.2 with ⟨h3, h4⟩ | ⟨g, cap, cur, h3, _, _, _, h4, _⟩
    · omega
    · injection h3 with _ _ h3
      unfold maxLen at h4
      omega
  obtain ⟨i0, hi0, hz0, hz1, hz2⟩ := info_parts info_i64
  obtain ⟨news, hnews⟩ : ∃ news, (ivals xs).drop (k + 1) = news := ⟨_, rfl⟩
  have hlen : news.length = n - (k + 1) := by rw [← hnews, List.length_drop, ivals_len, hl]
  have hcell : ∀ j, j < n → w.cell? ⟨g, j, none⟩ = (ivals xs)[j]? := fun j hj => ho.cellAt j (by omega)
  obtain ⟨B, hA, hsrc⟩ : ∃ B : Addr, (if c = k + 1 then (some ⟨g, 0, none⟩ : Option Addr) else some ⟨g, k + 1, none⟩) = some B ∧ Hid (∀ t u, news[t]? = some u → w.drew.cell? (B.add t) = some u) := by
    by_cases h : c = k + 1
    · refine ⟨⟨g, 0, none⟩, by simp [h], fun t u hu => ?_⟩
      have h0 : news.length = 0 := by rw [hlen]; omega
      rw [List.length_eq_zero_iff.1 h0] at hu
      simp at hu
    · refine ⟨⟨g, k + 1, none⟩, by simp [h], fun t u hu => ?_⟩
      have ht : t < n - (k + 1) := by rw [← hlen]; exact (List.getElem?_eq_some_iff.1 hu).1
      rw [Addr.add_lit]
      refine (hcell (k + 1 + t) (by omega)).trans ?_
      rw [← hu, ← hnews, List.getElem?_drop]
  have s1 : Hid (news.length = (n - (k + 1)) * 1) := by rw [Nat.mul_one]; exact hlen
  have s2 : Hid (∀ u ∈ news, u.oneCell' = true) := fun u hu => ivals_one xs u (by rw [← hnews] at hu; exact List.mem_of_mem_drop hu)
  have s3 : Hid (∀ t, t < news.length → (w.drew.cell? ⟨g, 0 + k * 1 + t, none⟩).isSome = true ∧ w.drew.frozen? ⟨g, 0 + k * 1 + t, none⟩ = false) := fun t ht => by
    rw [hlen] at ht
    rw [Nat.mul_one, Nat.zero_add]
    refine ⟨?_, ho.frozenAt _⟩
    show (w.cell? _).isSome = true
    rw [hcell _ (by omega), List.getElem?_eq_getElem (by rw [ivals_len, hl]; omega)]; rfl
  obtain ⟨W1, hW1⟩ : ∃ W1, W1 = w.drew.setCells g (0 + k * 1) news := ⟨_, rfl⟩
  have hp1 := own_put news w.drew _ (0 + k * 1) ho.drew
  rw [← hW1] at hp1
  obtain ⟨hm1, hG1⟩ := hp1
  rw [Nat.mul_one, Nat.zero_add] at hm1
  have hput1 : putAt (ivals xs) k news = (ivals xs).take k ++ (news ++ (ivals xs).drop (k + news.length)) := putAt_eq _ _ _ (by rw [ivals_len, hl, hlen]; omega)
  have hlen1 : (putAt (ivals xs) k news).length = n := by rw [hput1]; simp [ivals_len, hl, hlen]; omega
  have hcl : ∀ ty, (Builtin.clear_ #[60] ty #[.slice (some ⟨g, k + (n - (k + 1)), none⟩) (n - (k + (n - (k + 1)))) (c - (k + (n - (k + 1))))]).run Tryz.prog W1 = .ok (.tuple #[]) (W1.setCells g (k + (n - (k + 1))) (List.replicate (n - (k + (n - (k + 1)))) (.int .i64 0))) :=
    fun ty => Lib.run_clear_slice W1 _ _ ty _ Tryz.underlying60 zero_i64 rfl rfl g (k + (n - (k + 1))) _ _ (by omega) (fun t ht => by
      rw [hm1.cellAt _ (by omega), List.getElem?_eq_getElem (by rw [hlen1]; omega)]; rfl) (fun t _ => hm1.frozenAt _)
  obtain ⟨W2, hW2⟩ : ∃ W2, W1.setCells g (k + (n - (k + 1))) (List.replicate (n - (k + (n - (k + 1)))) (.int .i64 0)) = W2 := ⟨_, rfl⟩
  have hp2 := own_put (List.replicate (n - (k + (n - (k + 1)))) (Value.int .i64 0)) W1 _ (k + (n - (k + 1))) hm1
  rw [hW2] at hp2 hcl
  have hfin : (putAt (putAt (ivals xs) k news) (k + (n - (k + 1))) (List.replicate (n - (k + (n - (k + 1)))) (Value.int .i64 0))).take (n - 1) = ivals (delL xs k) := by
    rw [putAt_eq _ _ _ (by rw [hlen1, List.length_replicate]; omega), show k + (n - (k + 1)) = n - 1 by omega]
    rw [List.take_left' (by rw [List.length_take, hlen1]; omega), hput1, ← List.append_assoc]
    rw [List.take_left' (by simp [ivals_len, hl, hlen]; omega), ← hnews]
    simp [ivals, delL, List.map_take, List.map_drop]
  have Fin := Lib.hid (show DelR base (some ⟨g, 0, none⟩) n c xs k w (.returned (.slice (some ⟨g, 0, none⟩) (n - 1) c)) W2 from ⟨rfl, by rw [← hfin]; exact own_sub hp2.1 (by omega), World.grown_trans (grown_undrew hG1) hp2.2⟩)
  have hW : Hid (W1 = w.drew.setCells g (0 + k * 1) news) := hW1
  have hic : k ≤ c := by omega
  have hjc : k + 1 ≤ c := by omega
  have hkn : k + 1 ≤ n := by omega
  have hw1 : IntKind.i64.wrap ((k : Int) + 1) = (k : Int) + 1 := by rw [IntKind.wrap_i64]; omega
  have hz2 : ¬ ((k : Int) = (k : Int) + 1) := by omega
  have hb1 : (0 : Int) ≤ (k : Int) + 1 := by omega
  have htn : ((k : Int) + 1).toNat = k + 1 := by omega
  have hb3 : (k : Int) + 1 ≤ (n : Int) := by omega
  have hb4 : (k : Int) ≤ (k : Int) + 1 := by omega
  have hb6 : (k : Int) + 1 ≤ (c : Int) := by omega
  have mixed : Tryz.prog.follows Departure.mixedOrders = true := by kernel_rfl
  clear hW1 hp2 hfin hm1 hG1 hput1 hlen1 hcell hlen hnews ho hl hW2 hg1 hg2
  go_enter Tryz.func285, Tryz.ntmps285
  go_wp2_with fail
  go_region_law_o (refine step_append_room rfl (.tmp 22) (.tmp 25) 60 rfl 2 i0 1 Tryz.underlying60 hi0 hz1 g 0 k c (by simp [Act.eval, Act.put]) B (n - (k + 1)) (c - (k + 1)) news (by simp [Act.eval, Act.put]) s1.out hsrc.out s2.out (by omega) s3.out ?_; rw [← hW.out])
  go_wp2
  go_ret
  have e : k + (n - (k + 1)) = n - 1 := by omega
  first | exact Fin.out | (rw [e]; exact Fin.out)
end

section
open Go.RowKit

abbrev semaV (p : Int) (A : Option Addr) (n c : Nat) : Value := .agg #[.int .i64 p, .slice A n c]
/-- an answer that is a semaphore over new memory, and a number -/
def RetS (p : Int) (m : Nat) (xs : List Int) (q : Int) (w : World) (e : Ending) (w' : World) : Prop :=
  ∃ A c, e = .returned (.tuple #[semaV p A m c, .int .i64 q]) ∧ w'.ownsRow w.heap.size 2 1 (.slice A m c) m (ivals xs) ∧ Ext w w'
theorem ret_sem {fn : Func} {p u : Tmp} (h : fn.results = #[.cell p 369, .tmp u]) {tmps : Array Value} {w : World} {g : Nat} {a b : Value} {t : TypeId} {fr : Nat × Nat} (hp : tmps.getD p undef = .pointer (some ⟨g, 0, none⟩)) (hg : w.heap[g]? = some (.cells #[a, b] t fr)) :
    (results fn tmps).run Tryz.prog w = .ok (.tuple #[.agg #[a, b], tmps.getD u undef]) w :=
  results_row_tmp h tmps w g t #[a, b] fr _ hp hg Tryz.underlying369 (by rfl) (by kernel_rfl)
theorem retS_zero {w w2 : World} {g : Nat} {q : Int} (h : Ext w w2) (hg : w.heap.size ≤ g) (a b : Value) : RetS 0 0 [] q w (.returned (.tuple #[semaV 0 none 0 0, .int .i64 q])) ((w2.setCell ⟨g, 0, none⟩ a).setCell ⟨g, 1, none⟩ b) :=
  ⟨none, 0, rfl, World.ownsRow_nil _ _ _ _, ext_row2 h hg _ _⟩
theorem own_undrew {w a : World} {n : Nat} {e : TypeId} {v : Value} {xs : List Value} (h : w.ownsRow a.drew.heap.size e 1 v n xs) : w.ownsRow a.heap.size e 1 v n xs := h
theorem ext_undrew {a b : World} (h : Ext a.drew b) : Ext a b := ⟨h.os, h.tape, h.output, h.size, h.block⟩
/-- slices.Insert onto a list of the call's own, the number laid before or behind it -/
def InsX (W : World) (n : Nat) (ys : List Int) (e : Ending) (w' : World) : Prop :=
  ∃ A c, e = .returned (.slice A (n + 1) c) ∧ w'.ownsRow W.heap.size 2 1 (.slice A (n + 1) c) (n + 1) (ivals ys) ∧ Ext W w'
theorem insert_b (W w4 : World) (A4 : Option Addr) (n c4 k : Nat) (xs : List Int) (t : Int) (hl : xs.length = n) (hn : n ≤ 1000) (hk : k ≤ n) (ho : w4.ownsRow W.heap.size 2 1 (.slice A4 n c4) n (ivals xs)) (hy : Ext W w4) :
    Calls Tryz.prog 292 #[.slice A4 n c4, .int .i64 (k : Int), .slice (some ⟨w4.heap.size, 0, none⟩) 1 1] (w4.alloc (.cells #[.int .i64 t] 2)) (InsX W n (insL xs k t)) := by
  refine (insert_any _ W.heap.size A4 n c4 w4.heap.size k xs t hl hn hk (ho.alloc _) (blk_new w4 _) (own_not ho (.inr (Nat.le_refl _))) (by have := hy.size; rw [World.size_alloc]; omega)).mono ?_
  rintro e w5 ⟨A5, c5, rfl, ho5, hg5⟩
  exact ⟨A5, c5, rfl, ho5, (hy.alloc _).grown hg5 (fun k hk => own_ge ho k hk)⟩
theorem insert_a (W w4 : World) (A4 : Option Addr) (n c4 k : Nat) (xs : List Int) (t : Int) (hl : xs.length = n) (hn : n ≤ 1000) (hk : k ≤ n) (ho : w4.ownsRow (W.alloc (.cells #[.int .i64 t] 2)).heap.size 2 1 (.slice A4 n c4) n (ivals xs)) (hy : Ext (W.alloc (.cells #[.int .i64 t] 2)) w4) :
    Calls Tryz.prog 292 #[.slice A4 n c4, .int .i64 (k : Int), .slice (some ⟨W.heap.size, 0, none⟩) 1 1] w4 (InsX W n (insL xs k t)) := by
  rw [World.size_alloc] at ho
  refine (insert_any w4 W.heap.size A4 n c4 W.heap.size k xs t hl hn hk (own_base ho (by omega)) (blk_ext (blk_new W _) hy) (own_not ho (.inl (by omega))) (by have := hy.size; rw [World.size_alloc] at this; omega)).mono ?_
  rintro e w5 ⟨A5, c5, rfl, ho5, hg5⟩
  exact ⟨A5, c5, rfl, ho5, (((Ext.refl W).alloc _).trans hy).grown hg5 (fun k hk => by have := own_ge ho k hk; omega)⟩
set_option maxHeartbeats 8000000 in
set_option maxRecDepth 100000 in
theorem take_ok (w : World) (p t : Int) (A : Option Addr) (n c at_ : Nat) (xs : List Int) (hl : xs.length = n) (hr : Rd w A (ivals xs)) (hs : Ser t) (hF : Form p xs) (ha : At xs t at_) (hm : t ∉ xs) (hnp : (n : Int) < p) :
    Calls Tryz.prog 282 #[semaV p A n c, .int .i64 t] w (RetS p (n + 1) (insL xs at_ t) 0 w) := by
  have hn64 : n ≤ 64 := by have := hF.2.1; omega
  have KB0 := Lib.hid (blk_past (blk_new w (.cells #[.int .i64 p, .slice A n c] 369 (0, 0))) (.cells #[.int .i64 0, .slice none 0 0] 369 (0, 0)))
  have K0 := Lib.hid (blk_newk (w.alloc (.cells #[.int .i64 p, .slice A n c] 369 (0, 0))) (.cells #[.int .i64 0, .slice none 0 0] 369 (0, 0)) (k := w.heap.size + 1) (by simp))
  have Hl := Lib.hid hl; have Hr := Lib.hid hr
  have hat : at_ ≤ n := by rw [← hl]; exact ha.1
  have C := Lib.hid (fun W (hx : Ext w W) => search_any W t A n c xs hl (by omega) (hr.ext hx) hF.2.2.2 at_ ha)
  have Cc := Lib.hid (fun W (hx : Ext w W) => check_any W p A n c xs hl (by omega) (hr.ext hx))
  have Hfe := Lib.hid (formE_yes hF); have Hm := Lib.hid (decide_eq_false hm)
  have hb : ((n : Int) == p) = false := by rw [beq_eq_false_iff_ne]; omega
  clear hl hr ha hm hF hnp
  go_enter Tryz.func282, Tryz.ntmps282
  go_wp2_with fail
  refine (toE_q (serial_any _ t)).mono ?_
  rintro e w1 ⟨rfl, hy1⟩
  rw [decide_eq_true hs]
  have KB1 := Lib.hid (blk_ext KB0.out hy1); have K1 := Lib.hid (blk_ext K0.out hy1)
  have hx1 : Ext w w1 := (((Ext.refl w).alloc _).alloc _).trans hy1
  have b0 := blk_cell KB1.out 0; have b1 := blk_cell KB1.out 1
  clear hy1 hs
  go_wp2_with fail
  refine (Cc.out w1 hx1).mono ?_
  rintro e w2 ⟨rfl, hy2⟩
  rw [Hfe.out]
  have KB2 := Lib.hid (blk_ext KB1.out hy2); have K2 := Lib.hid (blk_ext K1.out hy2)
  have hx2 := hx1.trans hy2
  clear b0 b1 hy2
  have b0 := blk_cell KB2.out 0; have b1 := blk_cell KB2.out 1
  go_wp2_with fail
  refine (C.out w2 hx2).mono ?_
  rintro e w3 ⟨rfl, hy3⟩
  rw [Hm.out]
  have KB3 := Lib.hid (blk_ext KB2.out hy3); have K3 := Lib.hid (blk_ext K2.out hy3)
  have hx3 := hx2.trans hy3
  clear b0 b1 hy3 C Cc
  have hs3 : w.heap.size + 2 ≤ w3.heap.size := by have := blk_lt K3.out; omega
  have b0 := blk_cell KB3.out 0; have b1 := blk_cell KB3.out 1
  have hne : w.heap.size ≠ w.heap.size + 1 := by omega
  have Hr3 := Lib.hid (show Rd w3.drew A (ivals xs) from Hr.out.ext hx3.drew)
  have Hr3a := Lib.hid (fun o : Obj => (show Rd (w3.alloc o).drew A (ivals xs) from (Hr.out.ext (hx3.alloc o).drew)))
  have hsd : w3.drew.heap.size = w3.heap.size := rfl
  have hn1000 : n ≤ 1000 := by omega
  have r0 : w3.cell? ⟨w.heap.size, 0, none⟩ = some (.int .i64 p) := b0
  have r1 : w3.cell? ⟨w.heap.size, 1, none⟩ = some (.slice A n c) := b1
  have d0 : w3.drew.cell? ⟨w.heap.size, 0, none⟩ = some (.int .i64 p) := b0
  have d1 : w3.drew.cell? ⟨w.heap.size, 1, none⟩ = some (.slice A n c) := b1
  go_upto_region 11 with fail
  go_region_held3 (fun w' => w'.cell? ⟨w.heap.size, 0, none⟩ = some (.int .i64 p) ∧ w'.cell? ⟨w.heap.size, 1, none⟩ = some (.slice A n c))
    (((try go_split_ands); refine ⟨?_, ?_⟩ <;> first | assumption | (with_reducible exact d0) | (with_reducible exact d1) | (with_reducible exact q0) | (with_reducible exact q1) | (with_reducible exact s0) | (with_reducible exact s1) | (with_reducible exact drew_cell (cell_past r0 _)) | (with_reducible exact drew_cell (cell_past r1 _)) | (with_reducible exact cell_past d0 _) | (with_reducible exact cell_past d1 _) | (with_reducible exact cell_past r0 _) | (with_reducible exact cell_past r1 _) | (with_reducible exact cell_past q0 _) | (with_reducible exact cell_past q1 _) | (with_reducible exact cell_other (cell_other s0 hne) hne) | (with_reducible exact cell_other (cell_other s1 hne) hne) | (with_reducible exact drew_cell (cell_other (cell_other s0 hne) hne)) | (with_reducible exact drew_cell (cell_other (cell_other s1 hne) hne))))
    (first
      | (go_at_call 165; refine (iclone_any A n c xs _ Hl.out (by omega) (by first | exact Hr3.out | exact Hr3a.out _)).mono ?_; rintro e4 w4 ⟨A4, c4, rfl, ho4, hy4⟩; rw [Hl.out] at ho4 ⊢; have HO4 := Lib.hid ho4; have HY4 := Lib.hid hy4; have hx34 : Ext w3 w4 := (by first | exact ((Ext.refl w3).drew).trans hy4 | exact (((Ext.refl w3).alloc _).drew).trans hy4); have q0 := ext_cell hx34 r0; have q1 := ext_cell hx34 r1; clear ho4 hy4 hx34)
      | (go_at_call 292; (with_reducible refine (insert_b w3.drew w4 A4 n c4 at_ xs t Hl.out hn1000 hat HO4.out HY4.out).mono ?_); rintro e5 w5 ⟨A5, c5, rfl, ho5, hy5⟩; have HO5 := Lib.hid ho5; have hx35 : Ext w3 w5 := ((Ext.refl w3).drew).trans hy5; have s0 := ext_cell hx35 r0; have s1 := ext_cell hx35 r1; have KT5 := Lib.hid (blk_ext K3.out hx35); have u0 := blk_cell KT5.out 0; have u1 := blk_cell KT5.out 1; have v0 := blk_frozen KT5.out 0; have v1 := blk_frozen KT5.out 1; clear ho5 hy5)
      | (go_at_call 292; (with_reducible refine (insert_a w3 w4 A4 n c4 at_ xs t Hl.out hn1000 hat (own_undrew HO4.out) (ext_undrew HY4.out)).mono ?_); rintro e5 w5 ⟨A5, c5, rfl, ho5, hy5⟩; have HO5 := Lib.hid ho5; have hx35 : Ext w3 w5 := hy5; have s0 := ext_cell hx35 r0; have s1 := ext_cell hx35 r1; have KT5 := Lib.hid (blk_ext K3.out hx35); have u0 := blk_cell KT5.out 0; have u1 := blk_cell KT5.out 1; have v0 := blk_frozen KT5.out 0; have v1 := blk_frozen KT5.out 1; clear ho5 hy5))
  all_goals
    go_wp2_with fail
    refine bodyPost_ret (ret_sem rfl rfl (row2 KT5.out _ _)) rfl ?_
    exact ⟨A5, c5, rfl, own_base (own_row2 (own_base (base' := w.heap.size + 2) HO5.out (by omega)) (by omega) _ _) (by omega), ext_row2 (hx3.trans hx35) (by omega) _ _⟩
end
end Go.Proofs.YtloidkmphigbdaaGreat
