/- CountAtOnce answers true. -/
import Derived.Test.YtfjgpeffhbfihaaCntL
import Derived.Test.YtfjgpeffhbfihaaFrame
import Derived.Deep.LoopGhost
import Derived.Deep.CutBlock
namespace Go.Proofs.Ytfjgpeffhbfihaa
open Go.RowKit

/-- what holds ahead of a round -/
def OnceSt (w : World) (gc g8 lim val k : Nat) (wr : World) : Prop :=
  ∃ F a S ol, CntIn w F gc lim val a S wr ∧ a ≤ k ∧ wr.heap[g8]? = some (.cells (vals .u8 ol).toArray 97 (0, 0)) ∧ ol.length = 5 ∧ ¬ F g8 ∧ (∀ d o, ol[d]? = some o → OpOk lim o (S d)) ∧ w.heap.size ≤ g8
set_option maxHeartbeats 8000000 in
set_option maxRecDepth 100000 in
theorem countAtOnce_walk (w : World) (n0 : Nat) (hn0 : n0 < 256) (A : Option Addr) (m c : Nat) (R : List (List Int)) (hl : R.length = m) (hk : RecsOk pickKs R) (hr : Rd w A (R.flatMap (recVals pickKs))) (_hnc : m ≤ c) (_hz : m ≤ 8796093021952) :
    Calls Try.prog 9 #[.int .u8 (n0 : Int), .slice A m c] w (RetTrue w) := by
  have Hl := Lib.hid hl; have Hk := Lib.hid hk; have Hr := Lib.hid hr
  clear hl hk hr
  obtain ⟨lim, hlim⟩ : ∃ lim, n0 % 5 = lim := ⟨_, rfl⟩
  have hl4 : (lim : Int) ≤ 4 := by omega
  have hli : (n0 : Int) % 5 = (lim : Int) := by omega
  clear hlim
  go_enter Try.func9, Try.ntmps9
  go_wp2_with fail
  refine (cntAwake w).mono ?_
  rintro e w1 ⟨rfl, hx1⟩
  go_wp2_with fail
  refine (cin_new lim w w1 hx1 (by omega)).mono ?_
  rintro e w2 ⟨gc, F2, rfl, h2, _⟩
  obtain ⟨g8, hg8⟩ : ∃ g8, w2.heap.size = g8 := ⟨_, rfl⟩
  have h0 := Lib.hid (show OnceSt w gc g8 lim 0 0 (w2.alloc (.cells (vals .u8 [0, 0, 0, 0, 0]).toArray 97)) from
    ⟨F2, 0, _, [0, 0, 0, 0, 0], h2.ext ((Ext.refl w2).alloc _), Nat.le_refl _, blk_newk w2 _ hg8, rfl, fun e => by have := h2.lt g8 e; omega, fun _ _ _ => trivial, by rw [← hg8]; exact (CntIn.out h2).size⟩)
  clear h2
  go_wp2_with fail
  go_loopw [9, 35] (fun q i wr => ∃ k val : Nat, k ≤ m ∧ k ≤ 300 ∧ i = .int .i64 (k : Int) ∧ q = .int .i64 (val : Int) ∧ OnceSt w gc g8 lim val k wr) (fun _ i _ => m - (intOf i).toNat)
  case atStart => exact ⟨0, 0, Nat.zero_le _, by omega, rfl, rfl, h0.out⟩
  case round =>
    obtain ⟨k, val, hk, hk3, rfl, rfl, F, a, S, ol, h1, ha, h3, h4, h5, h6, h7⟩ := hrel
    have hX := Lib.hid (CntIn.out h1)
    by_cases hlt : k < m
    · obtain ⟨r, hr⟩ : ∃ r, R[k]? = some r := ⟨_, List.getElem?_eq_getElem (by rw [Hl.out]; exact hlt)⟩
      obtain ⟨who, op, rfl, hwho, hop⟩ := pick_row Hk.out hr
      obtain ⟨b, off, hA, _, c0, c1⟩ := pick_cells (Hr.out.ext hX.out) Hk.out hr
      subst hA
      clear hr
      by_cases h300 : k < 300
      · obtain ⟨u, hu⟩ : ∃ u : Nat, IntKind.u64.wrap who = (u : Int) := ⟨(IntKind.u64.wrap who).toNat, by rw [IntKind.wrap_u64]; omega⟩
        obtain ⟨d, hd, hd5⟩ : ∃ d : Nat, (u : Int) % 5 = (d : Int) ∧ d < 5 := ⟨u % 5, by omega, by omega⟩
        obtain ⟨o, ho⟩ : ∃ o, ol[d]? = some o := ⟨_, List.getElem?_eq_getElem (by omega)⟩
        have hok := h6 d o ho
        have ho3 : o = (o : Nat) := rfl
        have hle := h1.le
        have H1 := Lib.hid h1; have H3 := Lib.hid h3; have H6 := Lib.hid h6; have HO := Lib.hid ho; have HOK := Lib.hid hok; have H4 := Lib.hid h4
        clear ho3
        by_cases hop0 : op = 0
        · subst hop0
          have PI := Lib.hid (fun (u : World) (x : Ext wr u) (b : Bool) hb => cin_pend w u F gc lim val a d S (H1.out.ext x) (by omega) b hb)
          by_cases hs : S d = .idle
          · have PF := Lib.hid (fun (u : World) (x : Ext wr u) => PI.out u x false (.inr ⟨rfl, hs⟩))
            clear hs h1 h3 h4 h6 ho hok
            go_wp2_with fail
            refine (PF.out _ ((Ext.refl wr).alloc _)).mono ?_
            rintro e w3 ⟨rfl, rfl⟩
            go_wp2_with fail
            go_roundw
            case rel => exact ⟨k + 1, val, hlt, h300, by go_num, rfl, F, a, S, ol, H1.out.ext ((Ext.refl wr).alloc _), by omega, blk_past H3.out _, H4.out, h5, H6.out, h7⟩
            case measure => simp [intOf]; omega
          · have PF := Lib.hid (fun (u : World) (x : Ext wr u) => PI.out u x true (.inl ⟨rfl, hs⟩))
            have SP := Lib.hid (fun (u : World) (x : Ext wr u) => cin_step w u F gc lim val a d S (H1.out.ext x) (by omega) hs (by omega))
            have AO := Lib.hid (fun hdn => at_once (val := val) HOK.out hs hdn (by omega))
            have ND := Lib.hid (fun hdn => not_done (val := val) hs hdn)
            have NX := Lib.hid (opok_next (val := val) HOK.out hle)
            obtain ⟨er, Her⟩ : ∃ er, Hid (stErr val (S d) = er) := ⟨_, rfl⟩
            obtain ⟨nu, Hnu⟩ : ∃ nu, Hid (stNum val (S d) = nu) := ⟨_, rfl⟩
            obtain ⟨dn, Hdn⟩ : ∃ dn, Hid (stDone val (S d) = dn) := ⟨_, rfl⟩
            obtain ⟨val', Hval⟩ : ∃ v, Hid (stVal val (S d) = v) := ⟨_, rfl⟩
            rw [Her.out, Hnu.out, Hdn.out, Hval.out] at SP
            rw [Her.out, Hnu.out, Hdn.out, Hval.out] at AO ND
            clear hs h1 h3 h4 h6 ho hok
            go_wp2_with fail
            refine (PF.out _ ((Ext.refl wr).alloc _)).mono ?_
            rintro e w3 ⟨rfl, rfl⟩
            go_wp2_with fail
            refine (SP.out _ ((Ext.refl wr).alloc _)).mono ?_
            rintro e w5 ⟨rfl, h9⟩
            obtain ⟨F5, h9, k8, n8⟩ := h9.blk (blk_past H3.out _) h5
            have H9 := Lib.hid h9; have K8 := Lib.hid k8
            have CV := Lib.hid (fun (u : World) (x : Ext w5 u) => cin_value w u F5 gc lim val' (a + 1) _ (H9.out.ext x))
            have REL := Lib.hid (fun (u : World) (x : Ext w5 u) => show OnceSt w gc g8 lim val' (k + 1) u from ⟨F5, a + 1, _, ol, H9.out.ext x, by omega, blk_ext K8.out x, H4.out, n8, fun d' o' h => by
              by_cases e : d' = d
              · subst e
                rw [updS_self]
                rw [HO.out] at h
                injection h with h
                rw [← h]
                exact NX.out
              · rw [updS_other S _ e]
                exact H6.out d' o' h, h7⟩)
            have bo0 : w5.cell? ⟨g8, d, none⟩ = some (.int .u8 (o : Int)) := (blk_cell k8 d).trans (by simpa using vals_get HO.out)
            clear h9 k8
            cases dn with
            | false =>
              obtain ⟨e1, e2, e3⟩ := ND.out rfl
              subst e1 e2 e3
              go_wp2_with fail
              refine (CV.out _ ((Ext.refl w5).alloc _)).mono ?_
              rintro e w6 ⟨rfl, rfl⟩
              go_wp2_with fail
              go_roundw
              case rel => exact ⟨k + 1, val', hlt, h300, by go_num, rfl, REL.out _ ((Ext.refl w5).alloc _)⟩
              case measure => simp [intOf]; omega
            | true =>
              have hao := AO.out rfl
              have bo := cell_past bo0
              rcases hao with ⟨rfl, rfl, rfl, rfl⟩ | ⟨rfl, rfl, rfl, rfl, rfl⟩ | ⟨rfl, rfl, rfl, rfl, rfl⟩ | ⟨rfl, hne, rfl, rfl, rfl⟩ | ⟨rfl, hne, rfl, rfl, rfl⟩
              · have bo2 : ∀ (x y : Obj), ((w5.alloc x).alloc y).cell? ⟨g8, d, none⟩ = some (.int .u8 (3 : Int)) := fun x y => cell_past (bo x) y
                go_wp2_with fail
                refine (CV.out _ (((Ext.refl w5).alloc _).alloc _)).mono ?_
                rintro e w6 ⟨rfl, rfl⟩
                go_wp2_with fail
                go_roundw
                case rel => exact ⟨k + 1, val', hlt, h300, by go_num, rfl, REL.out _ (((Ext.refl w5).alloc _).alloc _)⟩
                case measure => simp [intOf]; omega
              · have bo2 : ∀ (x y : Obj), ((w5.alloc x).alloc y).cell? ⟨g8, d, none⟩ = some (.int .u8 (1 : Int)) := fun x y => cell_past (bo x) y
                go_wp2_with fail
                refine (CV.out _ (((Ext.refl w5).alloc _).alloc _)).mono ?_
                rintro e w6 ⟨rfl, rfl⟩
                go_wp2_with fail
                go_roundw
                case rel => exact ⟨k + 1, val', hlt, h300, by go_num, rfl, REL.out _ (((Ext.refl w5).alloc _).alloc _)⟩
                case measure => simp [intOf]; omega
              · have bo2 : ∀ (x y : Obj), ((w5.alloc x).alloc y).cell? ⟨g8, d, none⟩ = some (.int .u8 (2 : Int)) := fun x y => cell_past (bo x) y
                go_wp2_with fail
                refine (CV.out _ (((Ext.refl w5).alloc _).alloc _)).mono ?_
                rintro e w6 ⟨rfl, rfl⟩
                go_wp2_with fail
                go_roundw
                case rel => exact ⟨k + 1, 0, hlt, h300, by go_num, rfl, REL.out _ (((Ext.refl w5).alloc _).alloc _)⟩
                case measure => simp [intOf]; omega
              · have bo2 : ∀ (x y : Obj), ((w5.alloc x).alloc y).cell? ⟨g8, d, none⟩ = some (.int .u8 (1 : Int)) := fun x y => cell_past (bo x) y
                have hnb : ((val : Int) == (lim : Int)) = false := by rw [beq_eq_false_iff_ne]; omega
                clear hne
                go_wp2_with fail
                refine (CV.out _ (((Ext.refl w5).alloc _).alloc _)).mono ?_
                rintro e w6 ⟨rfl, rfl⟩
                go_wp2_with fail
                go_roundw
                case rel => exact ⟨k + 1, val + 1, hlt, h300, by go_num, by go_num, REL.out _ (((Ext.refl w5).alloc _).alloc _)⟩
                case measure => simp [intOf]; omega
              · have bo2 : ∀ (x y : Obj), ((w5.alloc x).alloc y).cell? ⟨g8, d, none⟩ = some (.int .u8 (2 : Int)) := fun x y => cell_past (bo x) y
                have hnb : (((val' : Int) + 1) == 0) = false := by rw [beq_eq_false_iff_ne]; omega
                clear hne
                go_wp2_with fail
                refine (CV.out _ (((Ext.refl w5).alloc _).alloc _)).mono ?_
                rintro e w6 ⟨rfl, rfl⟩
                go_wp2_with fail
                go_roundw
                case rel => exact ⟨k + 1, val', hlt, h300, by go_num, int_eq (by omega), REL.out _ (((Ext.refl w5).alloc _).alloc _)⟩
                case measure => simp [intOf]; omega
        · obtain ⟨q, hq, hq1, hq3⟩ : ∃ q : Nat, (1 : Int) + (op : Int) % 3 = (q : Int) ∧ 1 ≤ q ∧ q ≤ 3 := ⟨1 + op % 3, by omega, by omega, by omega⟩
          have hop1 : ((op : Int) == 0) = false := by rw [beq_eq_false_iff_ne]; omega
          by_cases hs : S d = .idle
          · have ST := Lib.hid (fun (u : World) (x : Ext wr u) => cin_start w u F gc lim val a d q S (H1.out.ext x) (by omega) hs hq1 hq3)
            clear hs h1 h3 h4 h6 ho hok hop0
            go_wp2_with fail
            refine (ST.out _ ((Ext.refl wr).alloc _)).mono ?_
            rintro e w5 ⟨rfl, h9⟩
            obtain ⟨F5, h9, k8, n8⟩ := h9.blk (blk_past H3.out _) h5
            have H9 := Lib.hid h9; have K8 := Lib.hid k8
            have bo0 : w5.cell? ⟨g8, d, none⟩ = some (.int .u8 (o : Int)) := (blk_cell k8 d).trans (by simpa using vals_get HO.out)
            have bf := blk_frozen k8 d
            have gs : GB w5 (w5.setCell ⟨g8, d, none⟩ (.int .u8 (q : Int))) (· = g8) := (GB.refl w5 (· = g8)).set g8 d _ (.inl rfl)
            have REL := Lib.hid (show OnceSt w gc g8 lim val (k + 1) (w5.setCell ⟨g8, d, none⟩ (.int .u8 (q : Int))) from ?_)
            rotate_left
            · refine ⟨F5, a, _, ol.set d q, H9.out.far gs n8 k8 (fun u t e => ?_) h7, by omega, (blk_set K8.out d _).trans (by rw [vals_set]; simp), by rw [List.length_set]; exact H4.out, n8, fun d' o' h => ?_, h7⟩
              · injection e with e
                have e2 := congrArg Array.size e
                simp [vals, H4.out] at e2
              · by_cases e : d' = d
                · subst e
                  rw [updS_self]
                  rw [List.getElem?_set_self (by rw [H4.out]; exact hd5)] at h
                  injection h with h
                  rw [← h]
                  exact opok_start lim q hq1 hq3
                · rw [updS_other S _ e]
                  rw [List.getElem?_set_ne (fun h => e h.symm)] at h
                  exact H6.out d' o' h
            clear h9 k8 gs
            go_wp2_with fail
            go_roundw
            case rel => exact ⟨k + 1, val, hlt, h300, by go_num, rfl, REL.out⟩
            case measure => simp [intOf]; omega
          · have ST := Lib.hid (fun (u : World) (x : Ext wr u) => cin_busy w u F gc lim val a d q S (H1.out.ext x) (by omega) hs hq1 hq3)
            clear hs h1 h3 h4 h6 ho hok hop0
            go_wp2_with fail
            refine (ST.out _ ((Ext.refl wr).alloc _)).mono ?_
            rintro e w5 ⟨rfl, h9, x9⟩
            have H9 := Lib.hid h9
            clear h9
            go_wp2_with fail
            go_roundw
            case rel => exact ⟨k + 1, val, hlt, h300, by go_num, rfl, F, a, S, ol, H9.out, by omega, blk_ext (blk_past H3.out _) x9, H4.out, h5, H6.out, h7⟩
            case measure => simp [intOf]; omega
      · clear h1 h3 h4 h6
        go_wp2_with fail
        go_ret
        exact retTrue (hX.out.alloc _)
    · clear h1 h3 h4 h6
      go_wp2_with fail
      go_ret
      exact retTrue hX.out
end Go.Proofs.Ytfjgpeffhbfihaa
