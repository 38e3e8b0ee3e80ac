/- law 14, the document's side: Find, Value over a sorted list. -/
import Derived.Test.YtlgggeeflomelaaShO
namespace Go.Proofs.Ytlgggeeflomelaa
open Go.RowKit

theorem at_of {l : List Ent} {k : List Nat} {i : Nat} {v : Int} (hs : SortedE l) (h : l[i]? = some (k, v)) : atE l k = i ∧ hasE l k = true ∧ getE l k = v := by
  have hh : hasE l k = true := (has_iff hs).2 ⟨(k, v), List.mem_of_getElem? h, rfl⟩
  obtain ⟨v', hv, hg⟩ := has_get hh
  have e : atE l k = i := by
    obtain ⟨a, b⟩ := List.getElem?_eq_some_iff.1 hv
    obtain ⟨c, d⟩ := List.getElem?_eq_some_iff.1 h
    rcases Nat.lt_trichotomy (atE l k) i with h9 | h9 | h9
    · have := List.pairwise_iff_getElem.1 hs _ _ a c h9
      rw [b, d, ord_refl] at this
      omega
    · exact h9
    · have := List.pairwise_iff_getElem.1 hs _ _ c a h9
      rw [b, d, ord_refl] at this
      omega
  refine ⟨e, hh, ?_⟩
  rw [hg]
  rw [e, h] at hv
  injection hv with hv
  injection hv with _ hv
  exact hv.symm
theorem not_has {l : List Ent} {k : List Nat} (hs : SortedE l) (h : ∀ j e, j < l.length → l[j]? = some e → e.1 ≠ k) : hasE l k = false := by
  cases hh : hasE l k with
  | false => rfl
  | true =>
    obtain ⟨e, he, hk⟩ := (has_iff hs).1 hh
    obtain ⟨j, hj⟩ := List.getElem?_of_mem he
    exact absurd hk (h j e (List.getElem?_eq_some_iff.1 hj).1 hj)
/-- Find's answer -/
def findI (l : List Ent) (k : List Nat) : Int := if hasE l k = true then (atE l k : Int) else -1
set_option maxHeartbeats 1000000 in
set_option maxRecDepth 100000 in
theorem rfind_any (w : World) (A K : Option Addr) (n c m d : Nat) (l : List Ent) (ks : List Kref) (k : List Nat) (hl : l.length = n) (hL : LstOk l) (hE : EntRd w A l ks) (hkl : k.length = m) (hm : m ≤ 100000) (hkb : ∀ x ∈ k, x < 256) (hr : Rd w K (vals .u8 k)) :
    Calls Try.prog 71 #[.slice A n c, .slice K m d] w fun e w' => e = .returned (.int .i64 (findI l k)) ∧ Ext w w' := by
  have Hl := Lib.hid hl; have HL := Lib.hid hL; have HE := Lib.hid hE; have Hkl := Lib.hid hkl; have Hkb := Lib.hid hkb; have Hr := Lib.hid hr
  have hn : n ≤ 4096 := by rw [← hl]; exact hL.2.2
  clear hl hL hE hkl hkb hr
  go_enter Try.func71, Try.ntmps71
  go_wp2_with fail
  go_loopw [9] (fun i wr => ∃ j : Nat, j ≤ n ∧ i = .int .i64 (j : Int) ∧ Ext w wr ∧ ∀ q e, q < j → l[q]? = some e → e.1 ≠ k) (fun i _ => n - (intOf i).toNat)
  case atStart => exact ⟨0, Nat.zero_le _, rfl, Ext.refl w, fun q e h => absurd h (Nat.not_lt_zero q)⟩
  case round =>
    obtain ⟨j, hj, rfl, hx, hne⟩ := hrel
    have HX := Lib.hid hx; have HNE := Lib.hid hne
    clear hne
    by_cases hlt : j < n
    · obtain ⟨e, he⟩ : ∃ e, l[j]? = some e := ⟨_, List.getElem?_eq_getElem (by rw [Hl.out]; exact hlt)⟩
      obtain ⟨b, off, K1, kc, hA, hks, d0, d1, hkc, hkr⟩ := (HE.out.ext hx).at_ he
      have hok := HL.out.2.1 e (List.mem_of_getElem? he)
      obtain ⟨x, v⟩ := e
      dsimp only at d0 d1 hkc hkr hok
      subst hA
      obtain ⟨xn, Hxn⟩ : ∃ xn, Hid (x.length = xn) := ⟨_, rfl⟩
      rw [Hxn.out] at d0
      have hxn : xn ≤ 256 := by rw [← Hxn.out]; exact hok.1
      have OR := Lib.hid (fun u (y : Ext wr u) => refOrder_any K1 K xn kc m d x k u Hxn.out Hkl.out (by omega) (by omega) hok.2.1 Hkb.out (hkr.ext y) (Hr.out.ext (HX.out.trans y)))
      have He := Lib.hid he
      clear he hok hkr hx hks
      by_cases hxk : x = k
      · subst hxk
        have e9 : ord x x = 0 := ord_refl x
        rw [e9] at OR
        clear e9
        go_wp2_with fail
        refine (OR.out _ ((Ext.refl wr).alloc _)).mono ?_
        rintro e w3 ⟨rfl, q, rfl⟩
        go_wp2_with fail
        go_ret
        obtain ⟨a1, a2, _⟩ := at_of HL.out.1 He.out
        refine ⟨?_, HX.out.trans (((Ext.refl wr).alloc _).drewN _)⟩
        unfold findI
        rw [if_pos a2, a1]
        rfl
      · obtain ⟨o, Ho⟩ : ∃ o, Hid (ord x k = o) := ⟨_, rfl⟩
        rw [Ho.out] at OR
        have ho : ((o : Int) == 0) = false := by simpa using (fun h : o = 0 => hxk ((ord_eq _ _).1 (Ho.out.trans h)))
        have Hxk := Lib.hid hxk
        clear hxk
        go_wp2_with fail
        refine (OR.out _ ((Ext.refl wr).alloc _)).mono ?_
        rintro e w3 ⟨rfl, q, rfl⟩
        go_wp2_with fail
        go_roundw
        case rel => exact ⟨j + 1, hlt, by go_num, HX.out.trans (((Ext.refl wr).alloc _).drewN _), fun q e hq he => by
          rcases Nat.lt_or_ge q j with h | h
          · exact HNE.out q e h he
          · obtain rfl : q = j := by omega
            rw [He.out] at he
            injection he with he
            subst he
            exact Hxk.out⟩
        case measure => simp [intOf]; omega
    · obtain rfl : j = n := by omega
      go_wp2_with fail
      go_ret
      refine ⟨?_, HX.out⟩
      unfold findI
      rw [not_has HL.out.1 (fun q e hq he => HNE.out q e (by rw [← Hl.out]; exact hq) he)]
      rfl
set_option maxHeartbeats 1000000 in
set_option maxRecDepth 100000 in
theorem rvalue_any (w : World) (A K : Option Addr) (n c m d : Nat) (l : List Ent) (ks : List Kref) (k : List Nat) (hl : l.length = n) (hL : LstOk l) (hE : EntRd w A l ks) (hkl : k.length = m) (hm : m ≤ 100000) (hkb : ∀ x ∈ k, x < 256) (hr : Rd w K (vals .u8 k)) :
    Calls Try.prog 74 #[.slice A n c, .slice K m d] w fun e w' => e = .returned (.int .i64 (getE l k)) ∧ Ext w w' := by
  have FD := Lib.hid (rfind_any w A K n c m d l ks k hl hL hE hkl hm hkb hr)
  by_cases hh : hasE l k = true
  · obtain ⟨v, hv, hg⟩ := has_get hh
    have hlt := has_lt hh
    obtain ⟨b, off, K1, kc, hA, hks, d0, d1, -, -⟩ := hE.at_ hv
    have e9 : findI l k = (atE l k : Int) := if_pos hh
    rw [e9] at FD
    rw [hg]
    rw [hl] at hlt
    obtain ⟨a, Ha⟩ : ∃ a, Hid (atE l k = a) := ⟨_, rfl⟩
    rw [Ha.out] at FD d0 d1 hlt
    subst hA
    dsimp only at d1
    have hlt' : (a : Int) < (n : Int) := by omega
    have ha0 : (0 : Int) ≤ (a : Int) := by omega
    clear e9 hE hl hL hkl hkb hr hv hks d0 hg hh
    go_enter Try.func74, Try.ntmps74
    go_wp2_with fail
    refine FD.out.mono ?_
    rintro e w1 ⟨rfl, x1⟩
    have d1' := ext_cell x1 d1
    go_wp2_with fail
    go_ret
    exact ⟨rfl, x1⟩
  · have e9 : findI l k = -1 := if_neg hh
    have e8 : getE l k = 0 := if_neg hh
    rw [e9] at FD
    rw [e8]
    clear e9 e8 hE hl hL hkl hkb hr hh
    go_enter Try.func74, Try.ntmps74
    go_wp2_with fail
    refine FD.out.mono ?_
    rintro e w1 ⟨rfl, x1⟩
    go_wp2_with fail
    go_ret
    exact ⟨rfl, x1⟩
end Go.Proofs.Ytlgggeeflomelaa
