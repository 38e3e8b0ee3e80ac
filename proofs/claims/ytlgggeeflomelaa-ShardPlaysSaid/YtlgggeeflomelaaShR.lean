/- law 14, the document's side: Put, Drop: a new list, the keys shared. Printed by gen_shr.py. -/
import Derived.Test.YtlgggeeflomelaaShQ
namespace Go.Proofs.Ytlgggeeflomelaa
open Go.RowKit

theorem info_re : (Try.prog.info? 160).map (fun i => (i.zero, i.size, i.bytes)) = some (some (.agg #[.slice none 0 0, .int .i64 0]), 2, 32) := by kernel_rfl
theorem app_re {ops : Array Oper} {rest : List Oper} {o : Oper} {a : Act} {Q : Exit → Act → World → Prop} (w : World) (hgd : o.guard = none) (s x : Operand)
    (ho : o.op = .call { callee := .builtin .append, args := #[s, x], argTypes := #[93, 93] })
    (base : Nat) {B : Option Addr} {n cb : Nat} {xs : List Value} (hs : a.eval s = .slice B n cb) (hown : w.ownsRow base 160 2 (.slice B n cb) n xs)
    {A : Option Addr} {c : Nat} {y z : Value} (hx : a.eval x = .slice A 1 c) (hr : Rd w A [y, z]) (hy : y.oneCell' = true) (hz : z.oneCell' = true) (hb : n ≤ 100000) (hbase : base ≤ w.heap.size)
    (h : ∀ B' cb' w', w'.ownsRow base 160 2 (.slice B' (n + 1) cb') (n + 1) (xs ++ [y, z]) → w.grownBy w' (Value.slice B n cb).ownBlock →
      ((Value.slice B' (n + 1) cb').ownBlock = (Value.slice B n cb).ownBlock ∨ (Value.slice B' (n + 1) cb').ownBlock = some w.heap.size) → wpList Try.prog ops Q rest (a.put o.dst (.slice B' (n + 1) cb')) w') :
    wpList Try.prog ops Q (o :: rest) a w := by
  obtain ⟨i0, hi, hz0, hz1, hz2⟩ := info_parts info_re
  exact wpList_append_rd w hgd s x 93 ho base 160 Try.underlying93 hi hz0 hz1 hz2 rfl (by decide) hs hown hx (m := 1) (news := [y, z]) rfl hr (by intro u hu; simp at hu; rcases hu with rfl | rfl <;> assumption) (by unfold maxLen; omega) (by omega) hbase h
/-- a list that is being made: its row is a call's own, its keys lie in what was there before (ks, or q0) -/
def OutAt (w0 w : World) (P : Kref → List Nat → Prop) (v : Value) (out : List Ent) : Prop :=
  ∃ B j cb kk, v = .slice B j cb ∧ out.length = j ∧ kk.length = j ∧ w.ownsRow w0.heap.size 160 2 (.slice B j cb) j (entV kk out) ∧ KeyRd w0 kk out ∧ (∀ p ∈ kk.zip out, P p.1 p.2.1) ∧ Ext w0 w
theorem OutAt.nil (w0 w : World) (P : Kref → List Nat → Prop) (x : Ext w0 w) : OutAt w0 w P (.slice none 0 0) [] := ⟨none, 0, 0, [], rfl, rfl, rfl, World.ownsRow_nil _ _ _ _, fun p hp => by simp at hp, fun q hq => by simp at hq, x⟩
theorem OutAt.ext {w0 w w' : World} {P : Kref → List Nat → Prop} {v : Value} {out : List Ent} (h : OutAt w0 w P v out) (x : Ext w w') : OutAt w0 w' P v out := by
  obtain ⟨B, j, cb, kk, h1, h2, h3, h4, h5, h6, h7⟩ := h
  exact ⟨B, j, cb, kk, h1, h2, h3, own_ext h4 x, h5, h6, h7.trans x⟩
/-- what an append onto it needs, and gives -/
theorem OutAt.app {w0 w w5 : World} {P : Kref → List Nat → Prop} {v : Value} {out : List Ent} (h : OutAt w0 w P v out) (x5 : Ext w w5) {q : Kref} {x : List Nat} {u : Int} {m : Nat} (hm : x.length = m) (hk : m ≤ q.2) (hr : Rd w0 q.1 (vals .u8 x)) (hq : P q x) (hol : out.length ≤ 5000) :
    ∃ B j cb xs, v = .slice B j cb ∧ j ≤ 5000 ∧ w5.ownsRow w0.heap.size 160 2 (.slice B j cb) j xs ∧ w0.heap.size ≤ w5.heap.size ∧ (∀ b, w.heap.size ≤ b → (Value.slice B j cb).ownBlock ≠ some b) ∧
      ∀ B' cb' w6, w6.ownsRow w0.heap.size 160 2 (.slice B' (j + 1) cb') (j + 1) (xs ++ [.slice q.1 m q.2, .int .i64 u]) → w5.grownBy w6 (Value.slice B j cb).ownBlock → OutAt w0 w6 P (.slice B' (j + 1) cb') (out ++ [(x, u)]) := by
  obtain ⟨B, j, cb, kk, h1, h2, h3, h4, h5, h6, h7⟩ := h
  subst hm
  refine ⟨B, j, cb, entV kk out, h1, by omega, own_ext h4 x5, (h7.trans x5).size, fun b hb e => Nat.lt_irrefl _ (Nat.lt_of_lt_of_le (h4.lt b e).2 hb), fun B' cb' w6 o6 g6 => ⟨B', j + 1, cb', kk ++ [q], rfl, by simp [h2], by simp [h3], by rw [entV_snoc q (x, u) (by rw [h3, h2])]; exact o6, h5.app (KeyRd.cons (fun p hp => by simp at hp) hk hr) (by rw [h3, h2]), fun p hp => ?_, (h7.trans x5).grown g6 (fun b e => (h4.lt b e).1)⟩⟩
  rw [List.zip_append (by rw [h3, h2])] at hp
  rcases List.mem_append.1 hp with hp | hp
  · exact h6 p hp
  · rw [List.mem_singleton.1 hp]; exact hq
/-- a new list: its row, its keys -/
def ListR (l' : List Ent) (P : Kref → List Nat → Prop) (w : World) (e : Ending) (w' : World) : Prop :=
  ∃ A c kk, e = .returned (.slice A l'.length c) ∧ EntRd w' A l' kk ∧ (∀ p ∈ kk.zip l', P p.1 p.2.1) ∧ (∀ a, A = some a → w.heap.size ≤ a.block ∧ a.block < w'.heap.size) ∧ Ext w w'
theorem OutAt.ret {w0 w : World} {P : Kref → List Nat → Prop} {v : Value} {out : List Ent} (h : OutAt w0 w P v out) : ListR out P w0 (.returned v) w := by
  obtain ⟨B, j, cb, kk, rfl, rfl, h3, h4, h5, h6, h7⟩ := h
  refine ⟨B, cb, kk, rfl, EntRd.of h3 (rd_own_s h4) (h5.ext h7), h6, fun a ha => ?_, h7⟩
  subst ha
  rcases h4.2 with ⟨h1, h2⟩ | ⟨g, cap, cur, h1, hb, hg, _⟩
  · cases h1
  · injection h1 with h1
    injection h1 with h1
    subst h1
    exact ⟨hb, (Array.getElem?_eq_some_iff.1 hg).1⟩
/-- Put's list on the way -/
def outP (l : List Ent) (k : List Nat) (v : Int) (i : Nat) : List Ent := if i ≤ atE l k then l.take i else l.take (atE l k) ++ (k, v) :: (l.drop (if hasE l k = true then atE l k + 1 else atE l k)).take (i - (if hasE l k = true then atE l k + 1 else atE l k))
theorem outP_before {l : List Ent} {k : List Nat} {v : Int} {i : Nat} {e : Ent} (h : l[i]? = some e) (hi : i < atE l k) : outP l k v (i + 1) = outP l k v i ++ [e] := by
  unfold outP
  rw [if_pos (by omega), if_pos (by omega), take_succ_of h]
theorem outP_at {l : List Ent} {k : List Nat} {v : Int} {i : Nat} (hi : i = atE l k) (hh : hasE l k = true) : outP l k v (i + 1) = outP l k v i ++ [(k, v)] := by
  subst hi
  unfold outP
  rw [if_neg (by omega), if_pos (Nat.le_refl _), if_pos hh, Nat.sub_self]
  rfl
theorem outP_at2 {l : List Ent} {k : List Nat} {v : Int} {i : Nat} {e : Ent} (h : l[i]? = some e) (hi : i = atE l k) (hh : hasE l k = false) : outP l k v (i + 1) = outP l k v i ++ [(k, v)] ++ [e] := by
  subst hi
  have hd : (l.drop (atE l k)).take 1 = [e] := by
    have h0 : (l.drop (atE l k))[0]? = some e := by rw [List.getElem?_drop]; exact h
    have := take_succ_of h0
    simpa using this
  unfold outP
  rw [if_neg (by omega), if_pos (Nat.le_refl _), if_neg (by rw [hh]; exact Bool.false_ne_true), Nat.add_sub_cancel_left, hd, List.append_assoc]
  rfl
theorem outP_gt {l : List Ent} {k : List Nat} {v : Int} : ∃ b, (∀ i, atE l k < i → outP l k v i = l.take (atE l k) ++ (k, v) :: (l.drop b).take (i - b)) ∧ putE l k v = l.take (atE l k) ++ (k, v) :: l.drop b ∧ b ≤ atE l k + 1 ∧ atE l k ≤ b := by
  refine ⟨if hasE l k = true then atE l k + 1 else atE l k, fun i hi => ?_, rfl, ?_, ?_⟩
  · unfold outP
    rw [if_neg (show ¬ i ≤ atE l k by omega)]
  · split <;> omega
  · split <;> omega
theorem outP_behind {l : List Ent} {k : List Nat} {v : Int} {i : Nat} {e : Ent} (h : l[i]? = some e) (hi : atE l k < i) : outP l k v (i + 1) = outP l k v i ++ [e] := by
  obtain ⟨b, hb, -, hbi, -⟩ := outP_gt (l := l) (k := k) (v := v)
  rw [hb _ (by omega), hb _ hi, show i + 1 - b = (i - b) + 1 by omega]
  have h0 : (l.drop b)[i - b]? = some e := by rw [List.getElem?_drop, show b + (i - b) = i by omega]; exact h
  rw [take_succ_of h0, List.append_assoc, List.cons_append]
theorem outP_end {l : List Ent} {k : List Nat} {v : Int} (h : atE l k < l.length) : outP l k v l.length = putE l k v := by
  obtain ⟨b, hb, hp, -, -⟩ := outP_gt (l := l) (k := k) (v := v)
  rw [hb _ h, hp, show (l.drop b).take (l.length - b) = l.drop b from List.take_of_length_le (by rw [List.length_drop]; exact Nat.le_refl _)]
theorem outP_last {l : List Ent} {k : List Nat} {v : Int} (h : atE l k = l.length) : outP l k v l.length ++ [(k, v)] = putE l k v := by
  have hh : hasE l k = false := has_none (by omega)
  unfold outP putE
  rw [if_pos (by omega), h, if_neg (by rw [hh]; exact Bool.false_ne_true), List.drop_of_length_le (Nat.le_refl _)]
theorem outP_len {l : List Ent} {k : List Nat} {v : Int} {i : Nat} (hl : l.length ≤ 4096) (hi : i ≤ l.length) : (outP l k v i).length ≤ 5000 := by
  by_cases h : i ≤ atE l k
  · unfold outP
    rw [if_pos h, List.length_take]; omega
  · obtain ⟨b, hb, -, -, h2⟩ := outP_gt (l := l) (k := k) (v := v)
    rw [hb _ (by omega), List.length_append, List.length_take, List.length_cons, List.length_take, List.length_drop]; omega
/-- Drop's list on the way -/
def outD (l : List Ent) (k : List Nat) (i : Nat) : List Ent := if i ≤ atE l k then l.take i else l.take (atE l k) ++ (l.drop (atE l k + 1)).take (i - (atE l k + 1))
theorem outD_before {l : List Ent} {k : List Nat} {i : Nat} {e : Ent} (h : l[i]? = some e) (hi : i < atE l k) : outD l k (i + 1) = outD l k i ++ [e] := by
  unfold outD
  rw [if_pos (by omega), if_pos (by omega), take_succ_of h]
theorem outD_at {l : List Ent} {k : List Nat} {i : Nat} (hi : i = atE l k) : outD l k (i + 1) = outD l k i := by
  subst hi
  unfold outD
  rw [if_neg (by omega), if_pos (Nat.le_refl _), Nat.sub_self, List.take_zero, List.append_nil]
theorem outD_behind {l : List Ent} {k : List Nat} {i : Nat} {e : Ent} (h : l[i]? = some e) (hi : atE l k < i) : outD l k (i + 1) = outD l k i ++ [e] := by
  unfold outD
  rw [if_neg (by omega), if_neg (by omega), show i + 1 - (atE l k + 1) = (i - (atE l k + 1)) + 1 by omega]
  have h0 : (l.drop (atE l k + 1))[i - (atE l k + 1)]? = some e := by rw [List.getElem?_drop, show atE l k + 1 + (i - (atE l k + 1)) = i by omega]; exact h
  rw [take_succ_of h0, List.append_assoc]
theorem outD_end {l : List Ent} {k : List Nat} (hh : hasE l k = true) : outD l k l.length = dropE l k := by
  have := has_lt hh
  unfold outD dropE
  rw [if_neg (show ¬ l.length ≤ atE l k by omega), if_pos hh, show (l.drop (atE l k + 1)).take (l.length - (atE l k + 1)) = l.drop (atE l k + 1) from List.take_of_length_le (by rw [List.length_drop]; exact Nat.le_refl _)]
theorem outD_len {l : List Ent} {k : List Nat} {i : Nat} (hl : l.length ≤ 4096) (hi : i ≤ l.length) : (outD l k i).length ≤ 5000 := by
  unfold outD
  split
  · rw [List.length_take]; omega
  · rw [List.length_append, List.length_take, List.length_take, List.length_drop]; omega
/-- the order at a place -/
theorem ord_before {l : List Ent} {k : List Nat} {i : Nat} {e : Ent} (h : l[i]? = some e) (hi : i < atE l k) : 0 < ord k e.1 := by
  have := at_before l k i e hi h
  have := ord_swap e.1 k
  omega
theorem ord_behind {l : List Ent} {k : List Nat} {i : Nat} {e : Ent} (hs : SortedE l) (h : l[i]? = some e) (hi : atE l k < i) : ord k e.1 < 0 := by
  have h1 := at_behind l k i e hs (by omega) h
  have h2 := ord_swap e.1 k
  have h3 : ord e.1 k ≠ 0 := fun h0 => by
    have h4 := (ord_eq _ _).1 h0
    obtain ⟨x, v⟩ := e
    dsimp only at h4
    subst h4
    have := (at_of hs h).1
    omega
  omega
theorem ord_here {l : List Ent} {k : List Nat} {i : Nat} {e : Ent} (hs : SortedE l) (h : l[i]? = some e) (hi : i = atE l k) : ord k e.1 ≤ 0 ∧ (hasE l k = true ↔ ord k e.1 = 0) := by
  have h1 := at_behind l k i e hs (by omega) h
  have h2 := ord_swap e.1 k
  refine ⟨by omega, ?_⟩
  have := has_ord (l := l) (k := k) (e := e) (hi ▸ h)
  rw [this, decide_eq_true_iff]
  constructor <;> intro h <;> omega
theorem OutAt.ext0 {w0 w : World} {P : Kref → List Nat → Prop} {v : Value} {out : List Ent} (h : OutAt w0 w P v out) : Ext w0 w := by
  obtain ⟨B, j, cb, kk, h1, h2, h3, h4, h5, h6, h7⟩ := h
  exact h7
theorem outP_len2 {l : List Ent} {k : List Nat} {v : Int} {i : Nat} (hl : l.length ≤ 4096) (hi : i ≤ l.length) : (outP l k v i).length ≤ 4097 := by
  by_cases h : i ≤ atE l k
  · unfold outP
    rw [if_pos h, List.length_take]; omega
  · obtain ⟨b, hb, -, -, h2⟩ := outP_gt (l := l) (k := k) (v := v)
    rw [hb _ (by omega), List.length_append, List.length_take, List.length_cons, List.length_take, List.length_drop]; omega
set_option maxHeartbeats 4000000 in
set_option maxRecDepth 100000 in
theorem rput_any (w : World) (A K : Option Addr) (n c m d : Nat) (v : Int) (l : List Ent) (ks : List Kref) (k : List Nat) (hl : l.length = n) (hL : LstOk l) (hE : EntRd w A l ks) (hkl : k.length = m) (hm : m ≤ 256) (hmd : m ≤ d) (hkb : ∀ x ∈ k, x < 256) (hr : Rd w K (vals .u8 k)) (P : Kref → List Nat → Prop) (hP : ∀ p ∈ ks.zip l, P p.1 p.2.1) (hPK : P (K, d) k) :
    Calls Try.prog 76 #[.slice A n c, .slice K m d, .int .i64 v] w (ListR (putE l k v) P w) := by
  have Hl := Lib.hid hl; have HL := Lib.hid hL; have HE := Lib.hid hE; have Hkl := Lib.hid hkl; have Hkb := Lib.hid hkb; have Hr := Lib.hid hr
  have hn : n ≤ 4096 := by rw [← hl]; exact hL.2.2
  obtain ⟨at_, Hat⟩ : ∃ a, Hid (atE l k = a) := ⟨_, rfl⟩
  have hatn : at_ ≤ n := by rw [← Hat.out, ← hl]; exact at_le l k
  clear hl hL hE hkl hkb hr
  go_enter Try.func76, Try.ntmps76
  go_wp2_with fail
  go_loopw [7, 8, 14] (fun v7 v8 i wr => ∃ j : Nat, j ≤ n ∧ i = .int .i64 (j : Int) ∧ v8 = .bool (decide (at_ < j)) ∧ OutAt w wr P v7 (outP l k v j)) (fun _ _ i _ => n - (intOf i).toNat)
  case atStart => exact ⟨0, Nat.zero_le _, rfl, by rw [decide_eq_false (Nat.not_lt_zero _)], by rw [show outP l k v 0 = [] by unfold outP; rw [if_pos (Nat.zero_le _)]; rfl]; exact OutAt.nil _ _ _ (Ext.refl w)⟩
  case round =>
    obtain ⟨j, hj, rfl, rfl, ho⟩ := hrel
    have HO := Lib.hid ho
    have hol := outP_len (l := l) (k := k) (v := v) (i := j) HL.out.2.2 (by rw [Hl.out]; exact hj)
    by_cases hlt : j < n
    · obtain ⟨e, he⟩ : ∃ e, l[j]? = some e := ⟨_, List.getElem?_eq_getElem (by rw [Hl.out]; exact hlt)⟩
      obtain ⟨b, off, K1, kc, hA, hks, d0, d1, hkc, hkr⟩ := (HE.out.ext HO.out.ext0).at_ he
      have hkr0 := (HE.out.2.2 j (K1, kc) e hks he).2
      have hok := HL.out.2.1 e (List.mem_of_getElem? he)
      have hmem := hP ((K1, kc), e) (List.mem_of_getElem? (List.getElem?_zip_eq_some.2 ⟨hks, he⟩))
      have He := Lib.hid he
      obtain ⟨x, u⟩ := e
      dsimp only at d0 d1 hkc hkr hok hkr0
      subst hA
      obtain ⟨xn, Hxn⟩ : ∃ xn, Hid (x.length = xn) := ⟨_, rfl⟩
      rw [Hxn.out] at d0 hkc
      have hxn : xn ≤ 256 := by rw [← Hxn.out]; exact hok.1
      have OR := Lib.hid (fun z (y : Ext wr z) => refOrder_any K K1 m d xn kc k x z Hkl.out Hxn.out (by omega) (by omega) Hkb.out hok.2.1 (Hr.out.ext (HO.out.ext0.trans y)) (hkr.ext y))
      have HKR := Lib.hid hkr0; have HMEM := Lib.hid hmem
      clear he hok hkr hks hkr0 hmem
      rcases Nat.lt_trichotomy j at_ with hja | hja | hja
      · have hord := ord_before (k := k) He.out (by rw [Hat.out]; exact hja)
        have hstep := outP_before (v := v) He.out (by rw [Hat.out]; exact hja)
        dsimp only at hord
        obtain ⟨o, Hord⟩ : ∃ o, Hid (ord k x = o) := ⟨_, rfl⟩
        rw [Hord.out] at OR hord
        have hz : ((o : Int) == 0) = false := by simpa using (by omega : o ≠ 0)
        have HST := Lib.hid hstep
        clear hstep
        have hdn : decide (at_ < j) = false := decide_eq_false (by omega)
        have hole : ¬ o ≤ 0 := by omega
        rw [hdn]
        clear hdn
        obtain ⟨W, hW⟩ : ∃ W, wr.alloc (.cells #[.slice K1 xn kc, .int .i64 u] 160) = W := ⟨_, rfl⟩
        have xW : Ext wr W := by rw [← hW]; exact (Ext.refl wr).alloc _
        have BX := Lib.hid (show W.heap[wr.heap.size]? = some (.cells #[.slice K1 xn kc, .int .i64 u] 160 (0, 0)) by rw [← hW]; exact blk_new wr _)
        have XW := Lib.hid xW
        clear xW
        go_upto_region 6 with fail
        (try rw [hW])
        clear hW d0 d1
        have b0 : W.cell? ⟨wr.heap.size, 0, none⟩ = some (.slice K1 xn kc) := blk_cell BX.out 0
        go_wp2_with fail
        refine (OR.out W XW.out).mono ?_
        rintro e w3 ⟨rfl, q3, hw3⟩
        have x3 : Ext W w3 := by rw [hw3]; exact (Ext.refl W).drewN _
        clear hw3
        have X3 := Lib.hid (XW.out.trans x3)
        have BX3 := Lib.hid (blk_ext BX.out x3)
        clear x3 b0
        have e0 : w3.cell? ⟨wr.heap.size, 0, none⟩ = some (.slice K1 xn kc) := blk_cell BX3.out 0
        have e1 : w3.cell? ⟨wr.heap.size, 1, none⟩ = some (.int .i64 u) := blk_cell BX3.out 1
        obtain ⟨B1, j1, cb1, xs1, hv1, hj1, ow1, sz1, ne1, fin1⟩ := HO.out.app (X3.out.trans ((Ext.refl w3).alloc (.cells #[.slice K1 xn kc, .int .i64 u] 160))) (q := (K1, kc)) (u := u) Hxn.out hkc HKR.out HMEM.out hol
        subst hv1
        have OW1 := Lib.hid ow1; have FIN1 := Lib.hid fin1; have NE1 := Lib.hid (ne1 wr.heap.size (Nat.le_refl _))
        clear ow1 fin1 ne1
        go_wp2_with (at_builtin; first | (refine app_re _ rfl (.tmp 36) (.tmp 38) rfl w.heap.size rfl OW1.out rfl (rd_newk w3 [.slice K1 xn kc, .int .i64 u] _ (by rfl)) rfl rfl (by omega) sz1 ?_; intro B2 cb2 w4 o4 g4 _; have O4 := Lib.hid (FIN1.out B2 cb2 w4 o4 g4); have f0 : w4.cell? ⟨wr.heap.size, 0, none⟩ = _ := grown_cellN g4 e0 NE1.out; have f1 : w4.cell? ⟨wr.heap.size, 1, none⟩ = _ := grown_cellN g4 e1 NE1.out; clear o4 g4))
        go_roundw
        case rel => exact ⟨j + 1, hlt, by go_num, congrArg Value.bool (decide_eq_false (by omega)).symm, by rw [HST.out]; exact O4.out⟩
        case measure => simp [intOf]; omega
      · have HJA := Lib.hid (hja.trans Hat.out.symm)
        have hja1 : at_ < j + 1 := by omega
        have hja2 : ¬ at_ < j := by omega
        clear hja
        have hord0 := ord_here HL.out.1 He.out HJA.out
        dsimp only at hord0
        obtain ⟨o, Hord⟩ : ∃ o, Hid (ord k x = o) := ⟨_, rfl⟩
        rw [Hord.out] at OR hord0
        obtain ⟨hole, hiff⟩ := hord0
        have hdn : decide (at_ < j) = false := decide_eq_false (by omega)
        rw [hdn]
        clear hdn
        by_cases hh : hasE l k = true
        · have hz : o = 0 := hiff.1 hh
          subst hz
          have HST := Lib.hid (outP_at (v := v) HJA.out hh)
          clear hiff hh
          obtain ⟨W, hW⟩ : ∃ W, wr.alloc (.cells #[.slice K1 xn kc, .int .i64 u] 160) = W := ⟨_, rfl⟩
          have xW : Ext wr W := by rw [← hW]; exact (Ext.refl wr).alloc _
          have BX := Lib.hid (show W.heap[wr.heap.size]? = some (.cells #[.slice K1 xn kc, .int .i64 u] 160 (0, 0)) by rw [← hW]; exact blk_new wr _)
          have XW := Lib.hid xW
          clear xW
          go_upto_region 6 with fail
          (try rw [hW])
          clear hW d0 d1
          have b0 : W.cell? ⟨wr.heap.size, 0, none⟩ = some (.slice K1 xn kc) := blk_cell BX.out 0
          go_wp2_with fail
          refine (OR.out W XW.out).mono ?_
          rintro e w3 ⟨rfl, q3, hw3⟩
          have x3 : Ext W w3 := by rw [hw3]; exact (Ext.refl W).drewN _
          clear hw3
          have X3 := Lib.hid (XW.out.trans x3)
          have BX3 := Lib.hid (blk_ext BX.out x3)
          clear x3 b0
          have e0 : w3.cell? ⟨wr.heap.size, 0, none⟩ = some (.slice K1 xn kc) := blk_cell BX3.out 0
          have e1 : w3.cell? ⟨wr.heap.size, 1, none⟩ = some (.int .i64 u) := blk_cell BX3.out 1
          obtain ⟨B1, j1, cb1, xs1, hv1, hj1, ow1, sz1, ne1, fin1⟩ := HO.out.app (X3.out.trans ((Ext.refl w3).alloc (.cells #[.slice K m d, .int .i64 v] 160))) (q := (K, d)) (u := v) Hkl.out hmd Hr.out hPK hol
          subst hv1
          have OW1 := Lib.hid ow1; have FIN1 := Lib.hid fin1; have NE1 := Lib.hid (ne1 wr.heap.size (Nat.le_refl _))
          clear ow1 fin1 ne1
          go_wp2_with (at_builtin; first | (refine app_re _ rfl (.tmp 28) (.tmp 32) rfl w.heap.size rfl OW1.out rfl (rd_newk w3 [.slice K m d, .int .i64 v] _ (by rfl)) rfl rfl (by omega) sz1 ?_; intro B2 cb2 w4 o4 g4 _; have O4 := Lib.hid (FIN1.out B2 cb2 w4 o4 g4); have f0 : w4.cell? ⟨wr.heap.size, 0, none⟩ = _ := grown_cellN g4 e0 NE1.out; have f1 : w4.cell? ⟨wr.heap.size, 1, none⟩ = _ := grown_cellN g4 e1 NE1.out; clear o4 g4))
          go_roundw
          case rel => exact ⟨j + 1, hlt, by go_num, congrArg Value.bool (decide_eq_true (by omega)).symm, by rw [HST.out]; exact O4.out⟩
          case measure => simp [intOf]; omega
        · have hz : ((o : Int) == 0) = false := by simpa using (fun h : o = 0 => hh (hiff.2 h))
          have HST := Lib.hid (outP_at2 (v := v) He.out HJA.out (by simpa using hh))
          clear hiff hh
          obtain ⟨W, hW⟩ : ∃ W, wr.alloc (.cells #[.slice K1 xn kc, .int .i64 u] 160) = W := ⟨_, rfl⟩
          have xW : Ext wr W := by rw [← hW]; exact (Ext.refl wr).alloc _
          have BX := Lib.hid (show W.heap[wr.heap.size]? = some (.cells #[.slice K1 xn kc, .int .i64 u] 160 (0, 0)) by rw [← hW]; exact blk_new wr _)
          have XW := Lib.hid xW
          clear xW
          go_upto_region 6 with fail
          (try rw [hW])
          clear hW d0 d1
          have b0 : W.cell? ⟨wr.heap.size, 0, none⟩ = some (.slice K1 xn kc) := blk_cell BX.out 0
          go_wp2_with fail
          refine (OR.out W XW.out).mono ?_
          rintro e w3 ⟨rfl, q3, hw3⟩
          have x3 : Ext W w3 := by rw [hw3]; exact (Ext.refl W).drewN _
          clear hw3
          have X3 := Lib.hid (XW.out.trans x3)
          have BX3 := Lib.hid (blk_ext BX.out x3)
          clear x3 b0
          have e0 : w3.cell? ⟨wr.heap.size, 0, none⟩ = some (.slice K1 xn kc) := blk_cell BX3.out 0
          have e1 : w3.cell? ⟨wr.heap.size, 1, none⟩ = some (.int .i64 u) := blk_cell BX3.out 1
          obtain ⟨B1, j1, cb1, xs1, hv1, hj1, ow1, sz1, ne1, fin1⟩ := HO.out.app (X3.out.trans ((Ext.refl w3).alloc (.cells #[.slice K m d, .int .i64 v] 160))) (q := (K, d)) (u := v) Hkl.out hmd Hr.out hPK hol
          subst hv1
          have OW1 := Lib.hid ow1; have FIN1 := Lib.hid fin1; have NE1 := Lib.hid (ne1 wr.heap.size (Nat.le_refl _))
          clear ow1 fin1 ne1
          go_wp2_with (at_builtin; first | (refine app_re _ rfl (.tmp 28) (.tmp 32) rfl w.heap.size rfl OW1.out rfl (rd_newk w3 [.slice K m d, .int .i64 v] _ (by rfl)) rfl rfl (by omega) sz1 ?_; intro B2 cb2 w4 o4 g4 _; have O4 := Lib.hid (FIN1.out B2 cb2 w4 o4 g4); have f0 : w4.cell? ⟨wr.heap.size, 0, none⟩ = _ := grown_cellN g4 e0 NE1.out; have f1 : w4.cell? ⟨wr.heap.size, 1, none⟩ = _ := grown_cellN g4 e1 NE1.out; clear o4 g4) | (obtain ⟨B3, j3, cb3, xs3, hv3, hj3, ow3, sz3, -, fin3⟩ := O4.out.app ((Ext.refl w4).alloc (.cells #[.slice K1 xn kc, .int .i64 u] 160)) (q := (K1, kc)) (u := u) Hxn.out hkc HKR.out HMEM.out (by have := HL.out.2.2; rw [List.length_append]; have h9 := outP_len2 (l := l) (k := k) (v := v) (i := j) this (by rw [Hl.out]; omega); simp only [List.length_cons, List.length_nil]; omega); injection hv3 with hv3 hv4 hv5; subst hv3 hv4 hv5; refine app_re _ rfl (.tmp 36) (.tmp 38) rfl w.heap.size rfl ow3 rfl (rd_newk w4 [.slice K1 xn kc, .int .i64 u] _ (by rfl)) rfl rfl (by omega) sz3 ?_; intro B5 cb5 w5 o5 g5 _; have O5 := Lib.hid (fin3 B5 cb5 w5 o5 g5); clear o5 g5))
          go_roundw
          case rel => exact ⟨j + 1, hlt, by go_num, congrArg Value.bool (decide_eq_true (by omega)).symm, by rw [HST.out]; exact O5.out⟩
          case measure => simp [intOf]; omega
      · have hord := ord_behind HL.out.1 He.out (by rw [Hat.out]; exact hja)
        have HST := Lib.hid (outP_behind (v := v) He.out (by rw [Hat.out]; exact hja))
        dsimp only at hord
        obtain ⟨o, Hord⟩ : ∃ o, Hid (ord k x = o) := ⟨_, rfl⟩
        rw [Hord.out] at OR hord
        have hz : ((o : Int) == 0) = false := by simpa using (by omega : o ≠ 0)
        have hdn : decide (at_ < j) = true := decide_eq_true hja
        have hole : o ≤ 0 := by omega
        rw [hdn]
        clear hdn
        obtain ⟨W, hW⟩ : ∃ W, wr.alloc (.cells #[.slice K1 xn kc, .int .i64 u] 160) = W := ⟨_, rfl⟩
        have xW : Ext wr W := by rw [← hW]; exact (Ext.refl wr).alloc _
        have BX := Lib.hid (show W.heap[wr.heap.size]? = some (.cells #[.slice K1 xn kc, .int .i64 u] 160 (0, 0)) by rw [← hW]; exact blk_new wr _)
        have XW := Lib.hid xW
        clear xW
        go_upto_region 6 with fail
        (try rw [hW])
        clear hW d0 d1
        have b0 : W.cell? ⟨wr.heap.size, 0, none⟩ = some (.slice K1 xn kc) := blk_cell BX.out 0
        go_wp2_with fail
        refine (OR.out W XW.out).mono ?_
        rintro e w3 ⟨rfl, q3, hw3⟩
        have x3 : Ext W w3 := by rw [hw3]; exact (Ext.refl W).drewN _
        clear hw3
        have X3 := Lib.hid (XW.out.trans x3)
        have BX3 := Lib.hid (blk_ext BX.out x3)
        clear x3 b0
        have e0 : w3.cell? ⟨wr.heap.size, 0, none⟩ = some (.slice K1 xn kc) := blk_cell BX3.out 0
        have e1 : w3.cell? ⟨wr.heap.size, 1, none⟩ = some (.int .i64 u) := blk_cell BX3.out 1
        obtain ⟨B1, j1, cb1, xs1, hv1, hj1, ow1, sz1, ne1, fin1⟩ := HO.out.app (X3.out.trans ((Ext.refl w3).alloc (.cells #[.slice K1 xn kc, .int .i64 u] 160))) (q := (K1, kc)) (u := u) Hxn.out hkc HKR.out HMEM.out hol
        subst hv1
        have OW1 := Lib.hid ow1; have FIN1 := Lib.hid fin1; have NE1 := Lib.hid (ne1 wr.heap.size (Nat.le_refl _))
        clear ow1 fin1 ne1
        go_wp2_with (at_builtin; first | (refine app_re _ rfl (.tmp 36) (.tmp 38) rfl w.heap.size rfl OW1.out rfl (rd_newk w3 [.slice K1 xn kc, .int .i64 u] _ (by rfl)) rfl rfl (by omega) sz1 ?_; intro B2 cb2 w4 o4 g4 _; have O4 := Lib.hid (FIN1.out B2 cb2 w4 o4 g4); have f0 : w4.cell? ⟨wr.heap.size, 0, none⟩ = _ := grown_cellN g4 e0 NE1.out; have f1 : w4.cell? ⟨wr.heap.size, 1, none⟩ = _ := grown_cellN g4 e1 NE1.out; clear o4 g4))
        go_roundw
        case rel => exact ⟨j + 1, hlt, by go_num, congrArg Value.bool (decide_eq_true (by omega)).symm, by rw [HST.out]; exact O4.out⟩
        case measure => simp [intOf]; omega
    · obtain rfl : j = n := by omega
      by_cases hja : at_ < j
      · have hdn : decide (at_ < j) = true := decide_eq_true hja
        rw [hdn]
        clear hdn
        go_wp2_with fail
        go_ret
        have h9 := outP_end (v := v) (by rw [Hat.out, Hl.out]; exact hja)
        rw [Hl.out] at h9
        rw [← h9]
        exact HO.out.ret
      · have hdn : decide (at_ < j) = false := decide_eq_false hja
        rw [hdn]
        clear hdn
        have h9 := outP_last (v := v) (show atE l k = l.length by rw [Hat.out, Hl.out]; omega)
        rw [Hl.out] at h9
        have H9 := Lib.hid h9
        clear h9
        obtain ⟨B1, j1, cb1, xs1, hv1, hj1, ow1, sz1, ne1, fin1⟩ := HO.out.app ((Ext.refl wr).alloc (.cells #[.slice K m d, .int .i64 v] 160)) (q := (K, d)) (u := v) Hkl.out hmd Hr.out hPK hol
        subst hv1
        have OW1 := Lib.hid ow1; have FIN1 := Lib.hid fin1
        clear ow1 fin1 ne1
        go_wp2_with (at_builtin; refine app_re _ rfl (.tmp 43) (.tmp 47) rfl w.heap.size rfl OW1.out rfl (rd_newk wr [.slice K m d, .int .i64 v] _ (by rfl)) rfl rfl (by omega) sz1 ?_; intro B2 cb2 w4 o4 g4 _; have O4 := Lib.hid (FIN1.out B2 cb2 w4 o4 g4); clear o4 g4)
        go_ret
        rw [← H9.out]
        exact O4.out.ret
set_option maxHeartbeats 4000000 in
set_option maxRecDepth 100000 in
theorem rdrop_any (w : World) (A K : Option Addr) (n c m d : Nat) (l : List Ent) (ks : List Kref) (k : List Nat) (hl : l.length = n) (hL : LstOk l) (hE : EntRd w A l ks) (hkl : k.length = m) (hm : m ≤ 256) (_hmd : m ≤ d) (hkb : ∀ x ∈ k, x < 256) (hr : Rd w K (vals .u8 k)) (P : Kref → List Nat → Prop) (hP : ∀ p ∈ ks.zip l, P p.1 p.2.1) (_hPK : P (K, d) k) (hh : hasE l k = true) :
    Calls Try.prog 75 #[.slice A n c, .slice K m d] w (ListR (dropE l k) P w) := by
  have Hl := Lib.hid hl; have HL := Lib.hid hL; have HE := Lib.hid hE; have Hkl := Lib.hid hkl; have Hkb := Lib.hid hkb; have Hr := Lib.hid hr
  have hn : n ≤ 4096 := by rw [← hl]; exact hL.2.2
  obtain ⟨at_, Hat⟩ : ∃ a, Hid (atE l k = a) := ⟨_, rfl⟩
  have hatn : at_ ≤ n := by rw [← Hat.out, ← hl]; exact at_le l k
  clear hl hL hE hkl hkb hr
  go_enter Try.func75, Try.ntmps75
  go_wp2_with fail
  go_loopw [5, 10] (fun v5 i wr => ∃ j : Nat, j ≤ n ∧ i = .int .i64 (j : Int) ∧ OutAt w wr P v5 (outD l k j)) (fun _ i _ => n - (intOf i).toNat)
  case atStart => exact ⟨0, Nat.zero_le _, rfl, by rw [show outD l k 0 = [] by unfold outD; rw [if_pos (Nat.zero_le _)]; rfl]; exact OutAt.nil _ _ _ (Ext.refl w)⟩
  case round =>
    obtain ⟨j, hj, rfl, ho⟩ := hrel
    have HO := Lib.hid ho
    have hol := outD_len (l := l) (k := k) (i := j) HL.out.2.2 (by rw [Hl.out]; exact hj)
    by_cases hlt : j < n
    · obtain ⟨e, he⟩ : ∃ e, l[j]? = some e := ⟨_, List.getElem?_eq_getElem (by rw [Hl.out]; exact hlt)⟩
      obtain ⟨b, off, K1, kc, hA, hks, d0, d1, hkc, hkr⟩ := (HE.out.ext HO.out.ext0).at_ he
      have hkr0 := (HE.out.2.2 j (K1, kc) e hks he).2
      have hok := HL.out.2.1 e (List.mem_of_getElem? he)
      have hmem := hP ((K1, kc), e) (List.mem_of_getElem? (List.getElem?_zip_eq_some.2 ⟨hks, he⟩))
      have He := Lib.hid he
      obtain ⟨x, u⟩ := e
      dsimp only at d0 d1 hkc hkr hok hkr0
      subst hA
      obtain ⟨xn, Hxn⟩ : ∃ xn, Hid (x.length = xn) := ⟨_, rfl⟩
      rw [Hxn.out] at d0 hkc
      have hxn : xn ≤ 256 := by rw [← Hxn.out]; exact hok.1
      have OR := Lib.hid (fun z (y : Ext wr z) => refOrder_any K K1 m d xn kc k x z Hkl.out Hxn.out (by omega) (by omega) Hkb.out hok.2.1 (Hr.out.ext (HO.out.ext0.trans y)) (hkr.ext y))
      have HKR := Lib.hid hkr0; have HMEM := Lib.hid hmem
      clear he hok hkr hks hkr0 hmem
      rcases Nat.lt_trichotomy j at_ with hja | hja | hja
      · have hord := ord_before (k := k) He.out (by rw [Hat.out]; exact hja)
        have hstep := outD_before He.out (by rw [Hat.out]; exact hja)
        dsimp only at hord
        obtain ⟨o, Hord⟩ : ∃ o, Hid (ord k x = o) := ⟨_, rfl⟩
        rw [Hord.out] at OR hord
        have hz : ((o : Int) == 0) = false := by simpa using (by omega : o ≠ 0)
        have HST := Lib.hid hstep
        clear hstep
        obtain ⟨W, hW⟩ : ∃ W, wr.alloc (.cells #[.slice K1 xn kc, .int .i64 u] 160) = W := ⟨_, rfl⟩
        have xW : Ext wr W := by rw [← hW]; exact (Ext.refl wr).alloc _
        have BX := Lib.hid (show W.heap[wr.heap.size]? = some (.cells #[.slice K1 xn kc, .int .i64 u] 160 (0, 0)) by rw [← hW]; exact blk_new wr _)
        have XW := Lib.hid xW
        clear xW
        go_upto_region 5 with fail
        (try rw [hW])
        clear hW d0 d1
        have b0 : W.cell? ⟨wr.heap.size, 0, none⟩ = some (.slice K1 xn kc) := blk_cell BX.out 0
        go_wp2_with fail
        refine (OR.out W XW.out).mono ?_
        rintro e w3 ⟨rfl, q3, hw3⟩
        have x3 : Ext W w3 := by rw [hw3]; exact (Ext.refl W).drewN _
        clear hw3
        have X3 := Lib.hid (XW.out.trans x3)
        have BX3 := Lib.hid (blk_ext BX.out x3)
        clear x3 b0
        have e0 : w3.cell? ⟨wr.heap.size, 0, none⟩ = some (.slice K1 xn kc) := blk_cell BX3.out 0
        have e1 : w3.cell? ⟨wr.heap.size, 1, none⟩ = some (.int .i64 u) := blk_cell BX3.out 1
        obtain ⟨B1, j1, cb1, xs1, hv1, hj1, ow1, sz1, ne1, fin1⟩ := HO.out.app (X3.out.trans ((Ext.refl w3).alloc (.cells #[.slice K1 xn kc, .int .i64 u] 160))) (q := (K1, kc)) (u := u) Hxn.out hkc HKR.out HMEM.out hol
        subst hv1
        have OW1 := Lib.hid ow1; have FIN1 := Lib.hid fin1; have NE1 := Lib.hid (ne1 wr.heap.size (Nat.le_refl _))
        clear ow1 fin1 ne1
        go_wp2_with (at_builtin; first | (refine app_re _ rfl (.tmp 19) (.tmp 21) rfl w.heap.size rfl OW1.out rfl (rd_newk w3 [.slice K1 xn kc, .int .i64 u] _ (by rfl)) rfl rfl (by omega) sz1 ?_; intro B2 cb2 w4 o4 g4 _; have O4 := Lib.hid (FIN1.out B2 cb2 w4 o4 g4); have f0 : w4.cell? ⟨wr.heap.size, 0, none⟩ = _ := grown_cellN g4 e0 NE1.out; have f1 : w4.cell? ⟨wr.heap.size, 1, none⟩ = _ := grown_cellN g4 e1 NE1.out; clear o4 g4))
        go_roundw
        case rel => exact ⟨j + 1, hlt, by go_num, by rw [HST.out]; exact O4.out⟩
        case measure => simp [intOf]; omega
      · have HJA := Lib.hid (hja.trans Hat.out.symm)
        have hja1 : at_ < j + 1 := by omega
        have hja2 : ¬ at_ < j := by omega
        clear hja
        have hord0 := ord_here HL.out.1 He.out HJA.out
        dsimp only at hord0
        obtain ⟨o, Hord⟩ : ∃ o, Hid (ord k x = o) := ⟨_, rfl⟩
        rw [Hord.out] at OR hord0
        obtain ⟨hole, hiff⟩ := hord0
        have hz : o = 0 := hiff.1 hh
        subst hz
        have HST := Lib.hid (outD_at HJA.out)
        clear hiff
        obtain ⟨W, hW⟩ : ∃ W, wr.alloc (.cells #[.slice K1 xn kc, .int .i64 u] 160) = W := ⟨_, rfl⟩
        have xW : Ext wr W := by rw [← hW]; exact (Ext.refl wr).alloc _
        have BX := Lib.hid (show W.heap[wr.heap.size]? = some (.cells #[.slice K1 xn kc, .int .i64 u] 160 (0, 0)) by rw [← hW]; exact blk_new wr _)
        have XW := Lib.hid xW
        clear xW
        go_upto_region 5 with fail
        (try rw [hW])
        clear hW d0 d1
        have b0 : W.cell? ⟨wr.heap.size, 0, none⟩ = some (.slice K1 xn kc) := blk_cell BX.out 0
        go_wp2_with fail
        refine (OR.out W XW.out).mono ?_
        rintro e w3 ⟨rfl, q3, hw3⟩
        have x3 : Ext W w3 := by rw [hw3]; exact (Ext.refl W).drewN _
        clear hw3
        have X3 := Lib.hid (XW.out.trans x3)
        have BX3 := Lib.hid (blk_ext BX.out x3)
        clear x3 b0
        have e0 : w3.cell? ⟨wr.heap.size, 0, none⟩ = some (.slice K1 xn kc) := blk_cell BX3.out 0
        have e1 : w3.cell? ⟨wr.heap.size, 1, none⟩ = some (.int .i64 u) := blk_cell BX3.out 1
        go_wp2_with fail
        go_roundw
        case rel => exact ⟨j + 1, hlt, by go_num, by rw [HST.out]; exact HO.out.ext X3.out⟩
        case measure => simp [intOf]; omega
      · have hord := ord_behind HL.out.1 He.out (by rw [Hat.out]; exact hja)
        have HST := Lib.hid (outD_behind He.out (by rw [Hat.out]; exact hja))
        dsimp only at hord
        obtain ⟨o, Hord⟩ : ∃ o, Hid (ord k x = o) := ⟨_, rfl⟩
        rw [Hord.out] at OR hord
        have hz : ((o : Int) == 0) = false := by simpa using (by omega : o ≠ 0)
        obtain ⟨W, hW⟩ : ∃ W, wr.alloc (.cells #[.slice K1 xn kc, .int .i64 u] 160) = W := ⟨_, rfl⟩
        have xW : Ext wr W := by rw [← hW]; exact (Ext.refl wr).alloc _
        have BX := Lib.hid (show W.heap[wr.heap.size]? = some (.cells #[.slice K1 xn kc, .int .i64 u] 160 (0, 0)) by rw [← hW]; exact blk_new wr _)
        have XW := Lib.hid xW
        clear xW
        go_upto_region 5 with fail
        (try rw [hW])
        clear hW d0 d1
        have b0 : W.cell? ⟨wr.heap.size, 0, none⟩ = some (.slice K1 xn kc) := blk_cell BX.out 0
        go_wp2_with fail
        refine (OR.out W XW.out).mono ?_
        rintro e w3 ⟨rfl, q3, hw3⟩
        have x3 : Ext W w3 := by rw [hw3]; exact (Ext.refl W).drewN _
        clear hw3
        have X3 := Lib.hid (XW.out.trans x3)
        have BX3 := Lib.hid (blk_ext BX.out x3)
        clear x3 b0
        have e0 : w3.cell? ⟨wr.heap.size, 0, none⟩ = some (.slice K1 xn kc) := blk_cell BX3.out 0
        have e1 : w3.cell? ⟨wr.heap.size, 1, none⟩ = some (.int .i64 u) := blk_cell BX3.out 1
        obtain ⟨B1, j1, cb1, xs1, hv1, hj1, ow1, sz1, ne1, fin1⟩ := HO.out.app (X3.out.trans ((Ext.refl w3).alloc (.cells #[.slice K1 xn kc, .int .i64 u] 160))) (q := (K1, kc)) (u := u) Hxn.out hkc HKR.out HMEM.out hol
        subst hv1
        have OW1 := Lib.hid ow1; have FIN1 := Lib.hid fin1; have NE1 := Lib.hid (ne1 wr.heap.size (Nat.le_refl _))
        clear ow1 fin1 ne1
        go_wp2_with (at_builtin; first | (refine app_re _ rfl (.tmp 19) (.tmp 21) rfl w.heap.size rfl OW1.out rfl (rd_newk w3 [.slice K1 xn kc, .int .i64 u] _ (by rfl)) rfl rfl (by omega) sz1 ?_; intro B2 cb2 w4 o4 g4 _; have O4 := Lib.hid (FIN1.out B2 cb2 w4 o4 g4); have f0 : w4.cell? ⟨wr.heap.size, 0, none⟩ = _ := grown_cellN g4 e0 NE1.out; have f1 : w4.cell? ⟨wr.heap.size, 1, none⟩ = _ := grown_cellN g4 e1 NE1.out; clear o4 g4))
        go_roundw
        case rel => exact ⟨j + 1, hlt, by go_num, by rw [HST.out]; exact O4.out⟩
        case measure => simp [intOf]; omega
    · obtain rfl : j = n := by omega
      go_wp2_with fail
      go_ret
      have h9 := outD_end hh
      rw [Hl.out] at h9
      rw [← h9]
      exact HO.out.ret
end Go.Proofs.Ytlgggeeflomelaa
