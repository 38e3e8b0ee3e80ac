/- shard: lists of entries in memory; find. -/
import Derived.Test.YtlgggeeflomelaaShPlain
import Derived.Test.YtlgggeeflomelaaOrdB
import Derived.Test.YtlgggeeflomelaaGb
import Derived.Deep.DeepCutAuto
import Derived.Deep.RegionWith
namespace Go.Proofs.Ytlgggeeflomelaa
open Go.RowKit

abbrev Kref := Option Addr × Nat
def entV (ks : List Kref) (l : List Ent) : List Value := (ks.zip l).flatMap fun p => [.slice p.1.1 p.2.1.length p.1.2, .int .i64 p.2.2]
theorem entV_len : ∀ (ks : List Kref) (l : List Ent), ks.length = l.length → (entV ks l).length = l.length * 2
  | [], [], _ => rfl
  | [], _ :: _, h => by cases h
  | _ :: _, [], h => by cases h
  | k :: ks, e :: l, h => by
    have := entV_len ks l (by simpa using h)
    unfold entV at this ⊢
    simp only [List.zip_cons_cons, List.flatMap_cons, List.length_append, this, List.length_cons]
    simp only [List.length_nil]
    omega
theorem entV_get : ∀ (ks : List Kref) (l : List Ent) (i : Nat) (k : Kref) (e : Ent), ks[i]? = some k → l[i]? = some e → (entV ks l)[i * 2]? = some (.slice k.1 e.1.length k.2) ∧ (entV ks l)[i * 2 + 1]? = some (.int .i64 e.2)
  | [], _, _, _, _, h, _ => by simp at h
  | _ :: _, [], _, _, _, _, h => by simp at h
  | k0 :: ks, e0 :: l, 0, k, e, h1, h2 => by
    simp at h1 h2
    subst h1 h2
    exact ⟨rfl, rfl⟩
  | k0 :: ks, e0 :: l, i + 1, k, e, h1, h2 => by
    have := entV_get ks l i k e (by simpa using h1) (by simpa using h2)
    have e9 : entV (k0 :: ks) (e0 :: l) = .slice k0.1 e0.1.length k0.2 :: .int .i64 e0.2 :: entV ks l := rfl
    rw [e9, show (i + 1) * 2 = i * 2 + 1 + 1 by omega, show i * 2 + 1 + 1 + 1 = (i * 2 + 1) + 1 + 1 by omega]
    exact ⟨by simpa using this.1, by simpa using this.2⟩
theorem entV_app {ks ks' : List Kref} {l l' : List Ent} (h : ks.length = l.length) : entV (ks ++ ks') (l ++ l') = entV ks l ++ entV ks' l' := by
  unfold entV
  rw [List.zip_append h, List.flatMap_append]
theorem entV_take : ∀ (ks : List Kref) (l : List Ent) (n : Nat), ks.length = l.length → entV (ks.take n) (l.take n) = (entV ks l).take (n * 2)
  | [], [], n, _ => by simp [entV]
  | [], _ :: _, _, h => by cases h
  | _ :: _, [], _, h => by cases h
  | k :: ks, e :: l, 0, _ => by simp [entV]
  | k :: ks, e :: l, n + 1, h => by
    have ih := entV_take ks l n (by simpa using h)
    have e9 : ∀ (a : List Kref) (b : List Ent), entV (k :: a) (e :: b) = .slice k.1 e.1.length k.2 :: .int .i64 e.2 :: entV a b := fun _ _ => rfl
    rw [List.take_succ_cons, List.take_succ_cons, e9, e9, show (n + 1) * 2 = n * 2 + 1 + 1 by omega, List.take_succ_cons, List.take_succ_cons, ih]
theorem entV_drop : ∀ (ks : List Kref) (l : List Ent) (n : Nat), ks.length = l.length → entV (ks.drop n) (l.drop n) = (entV ks l).drop (n * 2)
  | [], [], n, _ => by simp [entV]
  | [], _ :: _, _, h => by cases h
  | _ :: _, [], _, h => by cases h
  | k :: ks, e :: l, 0, _ => by simp
  | k :: ks, e :: l, n + 1, h => by
    have ih := entV_drop ks l n (by simpa using h)
    have e9 : entV (k :: ks) (e :: l) = .slice k.1 e.1.length k.2 :: .int .i64 e.2 :: entV ks l := rfl
    rw [List.drop_succ_cons, List.drop_succ_cons, e9, show (n + 1) * 2 = n * 2 + 1 + 1 by omega, List.drop_succ_cons, List.drop_succ_cons, ih]
theorem entV_one (ks : List Kref) (l : List Ent) : ∀ v ∈ entV ks l, v.oneCell' = true := by
  intro v hv
  obtain ⟨p, _, hp⟩ := List.mem_flatMap.1 hv
  rcases List.mem_cons.1 hp with h | h
  · subst h; rfl
  · rw [List.mem_singleton.1 h]; rfl
/-- reads as a list of entries; ks: where its keys lie -/
def EntRd (w : World) (A : Option Addr) (l : List Ent) (ks : List Kref) : Prop :=
  ks.length = l.length ∧ Rd w A (entV ks l) ∧ ∀ (i : Nat) (k : Kref) (e : Ent), ks[i]? = some k → l[i]? = some e → e.1.length ≤ k.2 ∧ Rd w k.1 (vals .u8 e.1)
theorem EntRd.ext {w w' : World} {A : Option Addr} {l : List Ent} {ks : List Kref} (h : EntRd w A l ks) (x : Ext w w') : EntRd w' A l ks := ⟨h.1, h.2.1.ext x, fun i k e hk he => ⟨(h.2.2 i k e hk he).1, (h.2.2 i k e hk he).2.ext x⟩⟩
theorem EntRd.nil (w : World) : EntRd w none [] [] := ⟨rfl, Rd.nil _ _, fun i k e hk => by simp at hk⟩
theorem EntRd.at_ {w : World} {A : Option Addr} {l : List Ent} {ks : List Kref} (h : EntRd w A l ks) {i : Nat} {e : Ent} (hi : l[i]? = some e) :
    ∃ b off K c, A = some ⟨b, off, none⟩ ∧ ks[i]? = some (K, c) ∧ w.cell? ⟨b, off + i * 2, none⟩ = some (.slice K e.1.length c) ∧ w.cell? ⟨b, off + i * 2 + 1, none⟩ = some (.int .i64 e.2) ∧ e.1.length ≤ c ∧ Rd w K (vals .u8 e.1) := by
  have hil := (List.getElem?_eq_some_iff.1 hi).1
  obtain ⟨k, hk⟩ : ∃ k, ks[i]? = some k := ⟨_, List.getElem?_eq_getElem (by rw [h.1]; exact hil)⟩
  obtain ⟨e1, e2⟩ := entV_get ks l i k e hk hi
  obtain ⟨b, off, hA, hc⟩ := h.2.1 (fun e0 => by rw [e0] at e1; simp at e1)
  obtain ⟨f1, f2⟩ := h.2.2 i k e hk hi
  exact ⟨b, off, k.1, k.2, hA, hk, hc _ _ e1, by rw [Nat.add_assoc]; exact hc _ _ e2, f1, f2⟩
set_option maxHeartbeats 1000000 in
/-- find's own order -/
theorem find1_any (w : World) (K1 K2 : Option Addr) (n c m d : Nat) (v : Int) (xs ys : List Nat) (hl : xs.length = n) (hl' : ys.length = m) (hb : ∀ x ∈ xs, x < 256) (hb' : ∀ x ∈ ys, x < 256) (hr : Rd w K1 (vals .u8 xs)) (hr' : Rd w K2 (vals .u8 ys)) :
    Calls Try.prog 106 #[.agg #[.slice K1 n c, .int .i64 v], .slice K2 m d] w (RetE (.int .i64 (ord xs ys)) w) := by
  have OR := Lib.hid (fun u (x : Ext w u) => order_any K1 K2 n c m d xs ys u hl hl' hb hb' (hr.ext x) (hr'.ext x))
  clear hl hl' hb hb' hr hr'
  go_enter Try.func106, Try.ntmps106
  go_wp2_with fail
  refine (OR.out _ ((Ext.refl w).alloc _)).mono ?_
  rintro e w1 ⟨rfl, rfl⟩
  go_wp2_with fail
  go_ret
  exact ⟨rfl, (Ext.refl w).alloc _⟩
theorem before_lt {l : List Ent} {k : List Nat} {h q : Nat} {e0 e : Ent} (hs : SortedE l) (h0 : l[h]? = some e0) (hlt : ord e0.1 k < 0) (hq : q < h) (he : l[q]? = some e) : ord e.1 k < 0 := by
  obtain ⟨a, b⟩ := List.getElem?_eq_some_iff.1 he
  obtain ⟨c, d⟩ := List.getElem?_eq_some_iff.1 h0
  have := List.pairwise_iff_getElem.1 hs q h a c hq
  rw [b, d] at this
  exact ord_lt_le this (by omega)
theorem after_ge {l : List Ent} {k : List Nat} {h q : Nat} {e0 e : Ent} (hs : SortedE l) (h0 : l[h]? = some e0) (hge : ¬ ord e0.1 k < 0) (hq : h ≤ q) (he : l[q]? = some e) : ¬ ord e.1 k < 0 := fun hlt => by
  rcases Nat.lt_or_ge h q with h9 | h9
  · exact hge (before_lt hs he hlt h9 h0)
  · have : q = h := by omega
    subst this
    rw [h0] at he
    injection he with he
    subst he
    exact hge hlt
/-- where a key stands, or would; whether it does -/
def FindR (l : List Ent) (k : List Nat) (w : World) (e : Ending) (w' : World) : Prop := e = .returned (.tuple #[.int .i64 (atE l k : Int), .bool (hasE l k)]) ∧ Ext w w'
set_option maxRecDepth 100000 in
set_option maxHeartbeats 2000000 in
theorem bsf_any (w : World) (A K : Option Addr) (n c m d : Nat) (l : List Ent) (ks : List Kref) (k : List Nat) (hl : l.length = n) (hn : n ≤ 5000) (hs : SortedE l) (hok : ∀ e ∈ l, OkE e) (hE : EntRd w A l ks) (hkl : k.length = m) (hkb : ∀ x ∈ k, x < 256) (hr : Rd w K (vals .u8 k)) :
    Calls Try.prog 105 #[.slice A n c, .slice K m d, .func (.func 106) #[] #[]] w (FindR l k w) := by
  have Hl := Lib.hid hl; have Hs := Lib.hid hs; have Hok := Lib.hid hok; have HE := Lib.hid hE; have Hkl := Lib.hid hkl; have Hkb := Lib.hid hkb; have Hr := Lib.hid hr
  clear hl hs hok hE hkl hkb hr
  go_enter Try.func105, Try.ntmps105
  go_wp2_with fail
  go_loopw [9, 10] (fun v9 v10 wr => ∃ i j : Nat, v9 = .int .i64 (i : Int) ∧ v10 = .int .i64 (j : Int) ∧ i ≤ j ∧ j ≤ n ∧ Ext w wr ∧ (∀ q e, q < i → l[q]? = some e → ord e.1 k < 0) ∧ (∀ q e, j ≤ q → l[q]? = some e → ¬ ord e.1 k < 0)) (fun v9 v10 _ => (intOf v10).toNat - (intOf v9).toNat)
  case atStart => exact ⟨0, n, rfl, rfl, Nat.zero_le _, Nat.le_refl _, Ext.refl w, fun q e h => absurd h (Nat.not_lt_zero q), fun q e h he => by have := (List.getElem?_eq_some_iff.1 he).1; have := Hl.out; omega⟩
  case round =>
    obtain ⟨i, j, rfl, rfl, hij, hjn, hx, h1, h2⟩ := hrel
    have HX := Lib.hid hx; have H1 := Lib.hid h1; have H2 := Lib.hid h2
    clear hx h1 h2
    by_cases hlt : i < j
    · have hlti : (i : Int) < (j : Int) := by omega
      obtain ⟨h, Hh⟩ : ∃ h, Hid ((i + j) / 2 = h) := ⟨_, rfl⟩
      have hh1 : i ≤ h := by have := Hh.out; omega
      have hh2 : h < j := by have := Hh.out; omega
      have hh3 : h < n := by omega
      have hw1 : IntKind.i64.wrap ((i : Int) + (j : Int)) = (i : Int) + (j : Int) := by rw [IntKind.wrap_i64]; omega
      have hw2 : IntKind.u64.wrap ((i : Int) + (j : Int)) = (i : Int) + (j : Int) := by rw [IntKind.wrap_u64]; omega
      have hq : ((i : Int) + (j : Int)) / 2 = (h : Int) := by have := Hh.out; omega
      obtain ⟨e, He⟩ : ∃ e, Hid (l[h]? = some e) := ⟨_, List.getElem?_eq_getElem (by rw [Hl.out]; omega)⟩
      obtain ⟨b, off, K1, c1, hA, hk1, ca, cv, hc1, hr1⟩ := (HE.out.ext HX.out).at_ He.out
      have hokE := Hok.out e (List.mem_of_getElem? He.out)
      obtain ⟨ek, ev⟩ := e
      dsimp only at ca cv hc1 hr1
      obtain ⟨ekl, Hekl⟩ : ∃ m, Hid (ek.length = m) := ⟨_, rfl⟩
      rw [Hekl.out] at ca hc1
      have OR := Lib.hid (fun u (x : Ext wr u) => find1_any u K1 K ekl c1 m d ev ek k Hekl.out Hkl.out hokE.2.1 Hkb.out (hr1.ext x) ((Hr.out.ext HX.out).ext x))
      clear hk1 hokE hr1
      subst hA
      go_upto_region 5 with fail
      clear hq hw1 hw2
      go_wp2_with fail
      refine (OR.out wr (Ext.refl wr)).mono ?_
      rintro e w1 ⟨rfl, hy⟩
      by_cases hxt : ord ek k < 0
      · have h1' : ∀ q e, q < h + 1 → l[q]? = some e → ord e.1 k < 0 := fun q e hq he => by
          rcases Nat.lt_or_ge q h with h9 | h9
          · exact before_lt Hs.out He.out hxt (by omega) he
          · have : q = h := by omega
            subst this
            rw [He.out] at he
            injection he with he
            subst he
            exact hxt
        have H1' := Lib.hid h1'
        clear h1'
        go_wp2_with fail
        go_roundw
        case rel => exact ⟨h + 1, j, by go_num, rfl, by omega, by omega, HX.out.trans hy, H1'.out, fun q e hq he => Int.not_lt.2 (H2.out q e hq he)⟩
        case measure => simp [intOf]; omega
      · have h2' : ∀ q e, h ≤ q → l[q]? = some e → ¬ ord e.1 k < 0 := fun q e hq he => after_ge Hs.out He.out hxt hq he
        have H2' := Lib.hid h2'
        clear h2'
        go_wp2_with fail
        go_roundw
        case rel => exact ⟨i, h, rfl, rfl, by omega, by omega, HX.out.trans hy, H1.out, fun q e hq he => Int.not_lt.2 (H2'.out q e hq he)⟩
        case measure => simp [intOf]; omega
    · obtain rfl : i = j := by omega
      have Hat := Lib.hid (at_eq Hs.out (by rw [Hl.out]; omega) H1.out H2.out)
      by_cases hlt2 : i < n
      · have hlt2i : (i : Int) < (n : Int) := by omega
        obtain ⟨e, He⟩ : ∃ e, Hid (l[i]? = some e) := ⟨_, List.getElem?_eq_getElem (by rw [Hl.out]; omega)⟩
        obtain ⟨b, off, K1, c1, hA, hk1, ca, cv, hc1, hr1⟩ := (HE.out.ext HX.out).at_ He.out
        have hokE := Hok.out e (List.mem_of_getElem? He.out)
        obtain ⟨hb, Hb⟩ : ∃ hb : Bool, Hid (hasE l k = hb) := ⟨_, rfl⟩
        have Hho := Lib.hid (has_ord (l := l) (k := k) (by rw [← Hat.out]; exact He.out))
        obtain ⟨ek, ev⟩ := e
        dsimp only at ca cv hc1 hr1
        obtain ⟨ekl, Hekl⟩ : ∃ m, Hid (ek.length = m) := ⟨_, rfl⟩
        rw [Hekl.out] at ca hc1
        have OR := Lib.hid (fun u (x : Ext wr u) => find1_any u K1 K ekl c1 m d ev ek k Hekl.out Hkl.out hokE.2.1 Hkb.out (hr1.ext x) ((Hr.out.ext HX.out).ext x))
        have hEq : (ord ek k == 0) = hb := by
          have h9 := Hho.out
          rw [Hb.out] at h9
          rw [h9]
          by_cases h0 : ord ek k = 0
          · rw [decide_eq_true h0]; simp [h0]
          · rw [decide_eq_false h0]; simp [h0]
        clear hk1 hokE hr1
        subst hA
        obtain ⟨o, Ho⟩ : ∃ o, Hid (ord ek k = o) := ⟨_, rfl⟩
        rw [Ho.out] at hEq OR
        go_upto_region 8 with fail
        go_wp2_with fail
        refine (OR.out wr (Ext.refl wr)).mono ?_
        rintro e w1 ⟨rfl, hy⟩
        go_wp2_with fail
        go_ret2
        exact ⟨ret_t2 (by rw [← Hat.out]; rfl) (bool_eq (by rw [Hb.out])), HX.out.trans hy⟩
      · have hlt2i : ¬ (i : Int) < (n : Int) := by omega
        have Hnone := Lib.hid (has_none (l := l) (k := k) (by rw [← Hat.out, Hl.out]; exact hlt2))
        go_wp2_with fail
        go_ret2
        exact ⟨ret_t2 (by rw [← Hat.out]; rfl) (bool_eq Hnone.out.symm), HX.out⟩
set_option maxHeartbeats 1000000 in
theorem find_any (w : World) (A K : Option Addr) (n c m d : Nat) (l : List Ent) (ks : List Kref) (k : List Nat) (hl : l.length = n) (hn : n ≤ 5000) (hs : SortedE l) (hok : ∀ e ∈ l, OkE e) (hE : EntRd w A l ks) (hkl : k.length = m) (hkb : ∀ x ∈ k, x < 256) (hr : Rd w K (vals .u8 k)) :
    Calls Try.prog 92 #[.slice A n c, .slice K m d] w (FindR l k w) := by
  have B := Lib.hid (bsf_any w A K n c m d l ks k hl hn hs hok hE hkl hkb hr)
  clear hl hs hok hE hkl hkb hr
  go_enter Try.func92, Try.ntmps92
  go_wp2_with fail
  refine B.out.mono ?_
  rintro e w1 ⟨rfl, hx⟩
  go_wp2_with fail
  go_ret2
  exact ⟨ret_t2 rfl rfl, hx⟩
end Go.Proofs.Ytlgggeeflomelaa
