/- shard: the version that a call makes of one. -/
import Derived.Test.YtlgggeeflomelaaShIns
import Derived.Test.YtlgggeeflomelaaShFind
import Derived.Test.YtlgggeeflomelaaTick
import Derived.Test.YtlgggeeflomelaaCap
import Derived.BigRegion
namespace Go.Proofs.Ytlgggeeflomelaa
open Go.RowKit

def KeyRd (w : World) (ks : List Kref) (l : List Ent) : Prop := ∀ p ∈ ks.zip l, p.2.1.length ≤ p.1.2 ∧ Rd w p.1.1 (vals .u8 p.2.1)
theorem EntRd.keys {w : World} {A : Option Addr} {l : List Ent} {ks : List Kref} (h : EntRd w A l ks) : KeyRd w ks l := fun p hp => by
  obtain ⟨i, hi⟩ := List.getElem?_of_mem hp
  obtain ⟨h1, h2⟩ := List.getElem?_zip_eq_some.1 hi
  exact h.2.2 i p.1 p.2 h1 h2
theorem EntRd.of {w : World} {A : Option Addr} {l : List Ent} {ks : List Kref} (h : ks.length = l.length) (hr : Rd w A (entV ks l)) (hk : KeyRd w ks l) : EntRd w A l ks := ⟨h, hr, fun _ k e h1 h2 => hk (k, e) (List.mem_of_getElem? (List.getElem?_zip_eq_some.2 ⟨h1, h2⟩))⟩
theorem KeyRd.ext {w w' : World} {ks : List Kref} {l : List Ent} (h : KeyRd w ks l) (x : Ext w w') : KeyRd w' ks l := fun p hp => ⟨(h p hp).1, (h p hp).2.ext x⟩
theorem KeyRd.take {w : World} {ks : List Kref} {l : List Ent} (h : KeyRd w ks l) (n : Nat) : KeyRd w (ks.take n) (l.take n) := fun p hp => h p (by
  unfold List.zip at hp ⊢
  rw [← List.take_zipWith] at hp
  exact List.mem_of_mem_take hp)
theorem KeyRd.drop {w : World} {ks : List Kref} {l : List Ent} (h : KeyRd w ks l) (n : Nat) : KeyRd w (ks.drop n) (l.drop n) := fun p hp => h p (by
  unfold List.zip at hp ⊢
  rw [← List.drop_zipWith] at hp
  exact List.mem_of_mem_drop hp)
theorem KeyRd.app {w : World} {ks ks' : List Kref} {l l' : List Ent} (h : KeyRd w ks l) (h' : KeyRd w ks' l') (hl : ks.length = l.length) : KeyRd w (ks ++ ks') (l ++ l') := fun p hp => by
  rw [List.zip_append hl] at hp
  rcases List.mem_append.1 hp with hp | hp
  · exact h p hp
  · exact h' p hp
theorem KeyRd.cons {w : World} {ks : List Kref} {l : List Ent} {k : Kref} {e : Ent} (h : KeyRd w ks l) (h1 : e.1.length ≤ k.2) (h2 : Rd w k.1 (vals .u8 e.1)) : KeyRd w (k :: ks) (e :: l) := fun p hp => by
  rcases List.mem_cons.1 hp with hp | hp
  · rw [hp]; exact ⟨h1, h2⟩
  · exact h p hp
theorem entV_cons (k : Kref) (e : Ent) (ks : List Kref) (l : List Ent) : entV (k :: ks) (e :: l) = [.slice k.1 e.1.length k.2, .int .i64 e.2] ++ entV ks l := rfl
theorem entV_set : ∀ (ks : List Kref) (l : List Ent) (i : Nat) (e : Ent) (v : Int), ks.length = l.length → l[i]? = some e → (entV ks l).set (i * 2 + 1) (.int .i64 v) = entV ks (l.set i (e.1, v))
  | [], [], _, _, _, _, h => by simp at h
  | [], _ :: _, _, _, _, h, _ => by cases h
  | _ :: _, [], _, _, _, h, _ => by cases h
  | k :: ks, x :: l, 0, e, v, _, h => by
    simp at h
    subst h
    rfl
  | k :: ks, x :: l, i + 1, e, v, hl, h => by
    have ih := entV_set ks l i e v (by simpa using hl) (by simpa using h)
    rw [List.set_cons_succ, entV_cons, entV_cons, ← ih, show (i + 1) * 2 + 1 = i * 2 + 1 + 1 + 1 by omega]
    rfl
theorem entV_ins (ks : List Kref) (l : List Ent) (K : Kref) (k : List Nat) (v : Int) (i : Nat) (h : ks.length = l.length) : insF 2 (entV ks l) i [.slice K.1 k.length K.2, .int .i64 v] = entV (ks.take i ++ K :: ks.drop i) (l.take i ++ (k, v) :: l.drop i) := by
  rw [entV_app (by rw [List.length_take, List.length_take, h]), entV_cons, entV_take _ _ _ h, entV_drop _ _ _ h]
  rfl
theorem entV_del (ks : List Kref) (l : List Ent) (i : Nat) (h : ks.length = l.length) : delF 2 (entV ks l) i = entV (ks.take i ++ ks.drop (i + 1)) (l.take i ++ l.drop (i + 1)) := by
  rw [entV_app (by rw [List.length_take, List.length_take, h]), entV_take _ _ _ h, entV_drop _ _ _ h, show (i + 1) * 2 = i * 2 + 2 by omega]
  rfl
theorem putE_has {l : List Ent} {k : List Nat} {v : Int} (h : hasE l k = true) : putE l k v = l.set (atE l k) (k, v) := by
  have hl := has_lt h
  unfold putE
  rw [if_pos h, List.set_eq_take_append_cons_drop, if_pos hl]
theorem putE_new {l : List Ent} {k : List Nat} {v : Int} (h : hasE l k = false) : putE l k v = l.take (atE l k) ++ (k, v) :: l.drop (atE l k) := by
  unfold putE
  rw [if_neg (by rw [h]; exact Bool.false_ne_true)]
theorem get_new {l : List Ent} {k : List Nat} (h : hasE l k = false) : getE l k = 0 := by
  unfold getE
  rw [if_neg (by rw [h]; exact Bool.false_ne_true)]
/-- a list of one's own -/
def EntOwn (w : World) (base : Nat) (A : Option Addr) (n c : Nat) (l : List Ent) (ks : List Kref) : Prop := ks.length = l.length ∧ l.length = n ∧ w.ownsRow base 102 2 (.slice A n c) n (entV ks l)
theorem KeyRd.set {w : World} {ks : List Kref} {l : List Ent} (h : KeyRd w ks l) {i : Nat} {e : Ent} (he : l[i]? = some e) (v : Int) : KeyRd w ks (l.set i (e.1, v)) := fun p hp => by
  obtain ⟨j, hj⟩ := List.getElem?_of_mem hp
  obtain ⟨h1, h2⟩ := List.getElem?_zip_eq_some.1 hj
  rw [List.getElem?_set] at h2
  split at h2
  · next hij =>
    subst hij
    split at h2
    · injection h2 with h2
      have := h (p.1, e) (List.mem_of_getElem? (List.getElem?_zip_eq_some.2 ⟨h1, he⟩))
      rw [← h2]
      exact this
    · cases h2
  · exact h (p.1, p.2) (List.mem_of_getElem? (List.getElem?_zip_eq_some.2 ⟨h1, h2⟩))
theorem rd_own_s {w : World} {base s : Nat} {e : TypeId} {A : Option Addr} {n c : Nat} {vs : List Value} (h : w.ownsRow base e s (.slice A n c) n vs) : Rd w A vs := fun hne => by
  rcases h.2 with ⟨h1, h2⟩ | ⟨g, cap, cur, h1, hb, hg, _⟩
  · have h3 := h.1
    rw [h2, Nat.zero_mul] at h3
    exact absurd (List.length_eq_zero_iff.1 h3) hne
  · injection h1 with h1 _ _
    refine ⟨g, 0, h1, fun j u hu => ?_⟩
    subst h1
    have hj := (List.getElem?_eq_some_iff.1 hu).1
    rw [Nat.zero_add]
    rw [h.cellAt j (by rw [← h.1]; exact hj)]
    exact hu
theorem EntOwn.rd {w : World} {base : Nat} {A : Option Addr} {n c : Nat} {l : List Ent} {ks : List Kref} (h : EntOwn w base A n c l ks) (hk : KeyRd w ks l) : EntRd w A l ks := EntRd.of h.1 (rd_own_s h.2.2) hk
/-- every key lies where one of these lay -/
def KsFrom (ks' ks : List Kref) (K : Kref) : Prop := ∀ q ∈ ks', q ∈ ks ∨ q = K
/-- the version that a call makes of one -/
def MadeR (op : Nat) (k : List Nat) (v : Int) (l : List Ent) (ks0 : List Kref) (K : Kref) (w : World) (e : Ending) (w' : World) : Prop :=
  ∃ A n c ks, e = .returned (.tuple #[.slice A n c, .int .i64 (madeE op k v l).2.1, .int .i64 ((madeE op k v l).2.2 : Int)]) ∧ (madeE op k v l).1.length = n ∧ EntRd w' A (madeE op k v l).1 ks ∧ Ext w w' ∧ KsFrom ks ks0 K ∧ ∀ a, A = some a → w.heap.size ≤ a.block ∧ a.block < w'.heap.size
/-- the list, in which the key now is, to be given a new value -/
def MidE (ks : List Kref) (K : Kref) (W : World) (l : List Ent) (k : List Nat) (v1 : Value) (w : World) : Prop := ∃ g n c l1 ks1, KsFrom ks1 ks K ∧ v1 = .slice (some ⟨g, 0, none⟩) n c ∧ EntOwn w W.heap.size (some ⟨g, 0, none⟩) n c l1 ks1 ∧ KeyRd W ks1 l1 ∧ Ext W w ∧ l1[atE l k]? = some (k, getE l k) ∧ n ≤ 5000 ∧ ∀ v, l1.set (atE l k) (k, v) = putE l k v
theorem mid_done {W w : World} {l : List Ent} {k : List Nat} {g n c : Nat} {l1 : List Ent} {ks1 : List Kref} {at_ : Nat} (ho : EntOwn w W.heap.size (some ⟨g, 0, none⟩) n c l1 ks1) (hk : KeyRd W ks1 l1) (hx : Ext W w) {x : Int} (h1 : l1[at_]? = some (k, x)) (h2 : ∀ v, l1.set at_ (k, v) = putE l k v) (v : Int) :
    (putE l k v).length = n ∧ EntRd (w.setCell ⟨g, at_ * 2 + 1, none⟩ (.int .i64 v)) (some ⟨g, 0, none⟩) (putE l k v) ks1 ∧ Ext W (w.setCell ⟨g, at_ * 2 + 1, none⟩ (.int .i64 v)) := by
  obtain ⟨o1, o2, o3⟩ := ho
  obtain ⟨s1, s2⟩ := o3.stored (at_ * 2 + 1) (.int .i64 v)
  rw [entV_set ks1 l1 at_ _ v o1 h1, h2 v] at s1
  have hl : (putE l k v).length = l1.length := by rw [← h2 v, List.length_set]
  have hw : Ext W (w.setCell ⟨g, at_ * 2 + 1, none⟩ (.int .i64 v)) := hx.grown s2 (fun q hq => by injection hq with hq; subst hq; exact (o3.lt g rfl).1)
  have hk2 := hk.set h1 v
  rw [h2 v] at hk2
  exact ⟨by rw [hl, o2], EntRd.of (by rw [hl, o1]) (rd_own_s s1) (hk2.ext hw), hw⟩
theorem own_at_e {w : World} {base g n c : Nat} {l : List Ent} {ks : List Kref} (h : EntOwn w base (some ⟨g, 0, none⟩) n c l ks) {i : Nat} {e : Ent} (he : l[i]? = some e) :
    w.cell? ⟨g, i * 2 + 1, none⟩ = some (.int .i64 e.2) ∧ w.frozen? ⟨g, i * 2 + 1, none⟩ = false ∧ i < n := by
  obtain ⟨o1, o2, o3⟩ := h
  have hil := (List.getElem?_eq_some_iff.1 he).1
  obtain ⟨k, hk⟩ : ∃ k, ks[i]? = some k := ⟨_, List.getElem?_eq_getElem (by rw [o1]; exact hil)⟩
  have e2 := (entV_get ks l i k e hk he).2
  have hj : i * 2 + 1 < n * 2 := by omega
  refine ⟨(o3.cellAt _ hj).trans e2, ?_, by omega⟩
  rcases o3.2 with ⟨h1, _⟩ | ⟨g', cap, cur, h1, _, hg, _⟩
  · injection h1 with h1; cases h1
  · injection h1 with h1 _ _
    injection h1 with h1
    injection h1 with h1
    subst h1
    exact blk_frozen hg _
theorem mid_has {W w : World} {l : List Ent} {k : List Nat} {A : Option Addr} {n d : Nat} {ks : List Kref} (hh : hasE l k = true) (ho : EntOwn w W.heap.size A n d l ks) (hk : KeyRd W ks l) (hx : Ext W w) (hn : n ≤ 4096) (K : Kref) : MidE ks K W l k (.slice A n d) w := by
  obtain ⟨v, hv, hg⟩ := has_get hh
  have hlt := has_lt hh
  obtain ⟨g, rfl, -, -⟩ := own_some_s ho.2.2 (by have := own_cap ho.2.2; have := ho.2.1; omega)
  exact ⟨g, n, d, l, ks, fun q h => .inl h, rfl, ho, hk, hx, by rw [hg]; exact hv, by omega, fun v => (putE_has hh).symm⟩
theorem mid_new {W w' : World} {l : List Ent} {k : List Nat} {A : Option Addr} {n d : Nat} {ks : List Kref} {K : Option Addr} {m kc : Nat} (hh : hasE l k = false) (ho : ks.length = l.length) (hln : l.length = n) (hk : KeyRd W ks l) (hr : Rd W K (vals .u8 k)) (hkl : k.length = m) (hkc : m ≤ kc) (hn : n ≤ 4096)
    (ho' : w'.ownsRow W.heap.size 102 2 (.slice A (n + 1) d) (n + 1) (insF 2 (entV ks l) (atE l k) [.slice K m kc, .int .i64 0])) (hx : Ext W w') : MidE ks (K, kc) W l k (.slice A (n + 1) d) w' := by
  subst hkl
  have hle := at_le l k
  rw [entV_ins ks l (K, kc) k 0 _ ho] at ho'
  obtain ⟨g, rfl, -, -⟩ := own_some_s ho' (by have := own_cap ho'; omega)
  have ht : (l.take (atE l k)).length = atE l k := by rw [List.length_take]; omega
  refine ⟨g, n + 1, d, _, _, ?_, rfl, ⟨?_, ?_, ho'⟩, (hk.take _).app ((hk.drop _).cons hkc hr) (by rw [List.length_take, List.length_take, ho]), hx, ?_, by omega, fun v => ?_⟩
  · intro q hq
    rcases List.mem_append.1 hq with hq | hq
    · exact .inl (List.mem_of_mem_take hq)
    · rcases List.mem_cons.1 hq with hq | hq
      · exact .inr hq
      · exact .inl (List.mem_of_mem_drop hq)
  · simp only [List.length_append, List.length_take, List.length_cons, List.length_drop, ho]
  · simp only [List.length_append, List.length_take, List.length_cons, List.length_drop]; omega
  · rw [get_new hh, List.getElem?_append_right (by omega), ht, Nat.sub_self]; rfl
  · rw [putE_new hh, List.set_append_right _ _ (Nat.le_of_eq ht), ht, Nat.sub_self]; rfl
theorem own_del_e {w : World} {base : Nat} {A : Option Addr} {n c : Nat} {l : List Ent} {ks : List Kref} {k : List Nat} (ho : ks.length = l.length) (hln : l.length = n) (hh : hasE l k = true) (h : w.ownsRow base 102 2 (.slice A (n - 1) c) (n - 1) (delF 2 (entV ks l) (atE l k))) :
    EntOwn w base A (n - 1) c (dropE l k) (ks.take (atE l k) ++ ks.drop (atE l k + 1)) := by
  have hlt := has_lt hh
  rw [entV_del _ _ _ ho] at h
  have e : dropE l k = l.take (atE l k) ++ l.drop (atE l k + 1) := by unfold dropE; rw [if_pos hh]
  rw [e]
  refine ⟨by simp only [List.length_append, List.length_take, List.length_drop, ho], ?_, h⟩
  simp only [List.length_append, List.length_take, List.length_drop]; omega
theorem one_two (K : Option Addr) (m d : Nat) : ∀ u ∈ [Value.slice K m d, .int .i64 0], u.oneCell' = true := fun u hu => by
  rcases List.mem_cons.1 hu with h | h
  · rw [h]; rfl
  · rw [List.mem_singleton.1 h]; rfl
set_option maxRecDepth 100000 in
set_option maxHeartbeats 4000000 in
theorem made_any (w : World) (who v : Int) (op : Nat) (A K : Option Addr) (n c m d : Nat) (l : List Ent) (ks : List Kref) (k : List Nat) (hl : l.length = n) (hL : LstOk l) (hE : EntRd w A l ks) (hkl : k.length = m) (hkd : m ≤ d) (ha : AskOk op k v) (ho1 : op ≠ 1) (hr : Rd w K (vals .u8 k)) :
    Calls Try.prog 94 #[.agg #[.int .i64 who, .int .u8 (op : Int), .slice K m d, .int .i64 v], .slice A n c] w (MadeR op k v l ks (K, d) w) := by
  obtain ⟨W, hW⟩ : ∃ W, w.alloc (.cells #[.int .i64 who, .int .u8 (op : Int), .slice K m d, .int .i64 v] 152) = W := ⟨_, rfl⟩
  have xW : Ext w W := by rw [← hW]; exact (Ext.refl w).alloc _
  have KB : W.heap[w.heap.size]? = some (.cells #[.int .i64 who, .int .u8 (op : Int), .slice K m d, .int .i64 v] 152 (0, 0)) := by rw [← hW]; exact blk_new w _
  have hn : n ≤ 4096 := by rw [← hl]; exact hL.2.2
  have c1 : W.cell? ⟨w.heap.size, 1, none⟩ = some (.int .u8 (op : Int)) := blk_cell KB 1
  have c2 : W.cell? ⟨w.heap.size, 2, none⟩ = some (.slice K m d) := blk_cell KB 2
  have c3 : W.cell? ⟨w.heap.size, 3, none⟩ = some (.int .i64 v) := blk_cell KB 3
  obtain ⟨at_, hat⟩ : ∃ a, atE l k = a := ⟨_, rfl⟩
  obtain ⟨hb, hhb⟩ : ∃ b, hasE l k = b := ⟨_, rfl⟩
  have hatn : at_ ≤ n := by rw [← hat, ← hl]; exact at_le l k
  have FD := find_any W A K n c m d l ks k hl (by omega) hL.1 hL.2.1 (hE.ext xW) hkl ha.2.2.2.1 (hr.ext xW)
  have CL := Lib.hid (fun (u : World) (x : Ext w u) => sh_clone u A n c (entV ks l) (by rw [entV_len _ _ hE.1, hl]) (by omega) (hE.2.1.ext x) (entV_one ks l))
  have HK := Lib.hid (hE.keys)
  have HKL := Lib.hid hE.1
  unfold FindR at FD
  rw [hat, hhb] at FD
  have FD' := Lib.hid FD
  clear FD
  have Hat := Lib.hid hat; have Hhb := Lib.hid hhb; have Hl := Lib.hid hl; have HL := Lib.hid hL; have HA := Lib.hid ha; have Hkl := Lib.hid hkl; have Hr := Lib.hid hr; have XW := Lib.hid xW
  clear hat hhb hl hL hE ha hkl hr xW KB
  go_enter Try.func94, Try.ntmps94
  go_upto_region 1 with fail
  (try rw [hW])
  clear hW
  go_wp2_with fail
  refine FD'.out.mono ?_
  rintro e w1 ⟨rfl, x1⟩
  have X1 := Lib.hid (XW.out.trans x1)
  have hbw1 : w.heap.size < w1.heap.size := World.block_lt_of_cell? _ _ (ext_cell x1 c1)
  have d1 := ext_cell x1 c1; have d2 := ext_cell x1 c2; have d3 := ext_cell x1 c3
  clear x1 c1 c2 c3
  go_wp2_with fail
  refine (CL.out w1 X1.out).mono ?_
  rintro e w2 ⟨B, cb, rfl, ho, x2⟩
  have HO := Lib.hid ho
  have X2 := Lib.hid (X1.out.trans x2)
  have hx2s := x2.size
  have c1 := ext_cell x2 d1; have c2 := ext_cell x2 d2; have c3 := ext_cell x2 d3
  clear x2 d1 d2 d3 ho
  by_cases h4 : op = 4
  · subst h4
    cases hb with
    | false =>
      go_wp2_with fail
      go_ret3
      have e9 : madeE 4 k v l = ([], 0, 7) := by unfold madeE; rw [if_pos ⟨rfl, Hhb.out⟩]
      refine ⟨none, 0, 0, [], ?_, by rw [e9]; rfl, by rw [e9]; exact EntRd.nil _, X2.out, (fun q h => by cases h), (fun a h => by cases h)⟩
      rw [e9]
      rfl
    | true =>
      have hlt : at_ < n := by have := has_lt Hhb.out; rw [Hat.out, Hl.out] at this; exact this
      have HOE : Hid (EntOwn w2 w1.heap.size B n cb l ks) := ⟨HKL.out, Hl.out, HO.out⟩
      obtain ⟨g, hg, -, -⟩ := own_some_s HO.out (by have := own_cap HO.out; omega)
      subst hg
      obtain ⟨x, hx, hgx⟩ := has_get Hhb.out
      rw [Hat.out] at hx
      obtain ⟨f1, f2, f3⟩ := own_at_e HOE.out hx
      dsimp only at f1
      have DL := Lib.hid (sh_delete w2 w1.heap.size (some ⟨g, 0, none⟩) n cb at_ (entV ks l) (entV_one ks l) (by omega) hlt HO.out)
      have wat : IntKind.i64.wrap ((at_ : Int) + 1) = (at_ : Int) + 1 := by rw [IntKind.wrap_i64]; omega
      have Hgx := Lib.hid hgx
      clear hx hgx f2
      go_wp2_with fail
      refine DL.out.mono ?_
      rintro e w3 ⟨rfl, ho3, hg3⟩
      rw [← Hat.out] at ho3
      have D := own_del_e HKL.out Hl.out Hhb.out ho3
      have X3 := X2.out.grown hg3 (fun q hq => Nat.le_trans X1.out.size (HO.out.lt q hq).1)
      have e9 : madeE 4 k v l = (dropE l k, x, 0) := by unfold madeE; rw [if_neg (by rw [Hhb.out]; simp), if_pos rfl, Hgx.out]
      have hkk : KeyRd w3 (ks.take (atE l k) ++ ks.drop (atE l k + 1)) (dropE l k) := by
        have : dropE l k = l.take (atE l k) ++ l.drop (atE l k + 1) := by unfold dropE; rw [if_pos Hhb.out]
        rw [this]
        exact ((HK.out.ext X3).take _).app ((HK.out.ext X3).drop _) (by rw [List.length_take, List.length_take, HKL.out])
      have Fin : Hid (MadeR 4 k v l ks (K, d) w (.returned (.tuple #[.slice (some ⟨g, 0, none⟩) (n - 1) cb, .int .i64 x, .int .i64 0])) w3) := by
        refine ⟨_, _, _, ks.take (atE l k) ++ ks.drop (atE l k + 1), by rw [e9]; rfl, ?_, ?_, X3, (fun q hq => .inl ((List.mem_append.1 hq).elim List.mem_of_mem_take List.mem_of_mem_drop)), (fun a ha => by injection ha with ha; rw [← ha]; exact ⟨Nat.le_trans X1.out.size (HO.out.lt g rfl).1, (D.2.2.lt g rfl).2⟩)⟩
        · rw [e9]; exact D.2.1
        · rw [e9]; exact D.rd hkk
      clear ho3 hg3 D X3 e9 hkk
      go_wp2_with fail
      go_ret3
      exact Fin.out
  · have h4' : ((op : Int) == 4) = false := by simpa using (by omega : (op : Int) ≠ 4)
    by_cases hfull : hb = false ∧ n = 4096
    · obtain ⟨rfl, rfl⟩ := hfull
      go_wp2_with fail
      go_ret3
      have e9 : madeE op k v l = ([], 0, 10) := by unfold madeE; rw [if_neg (fun h => h4 h.1), if_neg h4, if_pos ⟨Hhb.out, Hl.out⟩]
      refine ⟨none, 0, 0, [], ?_, by rw [e9]; rfl, by rw [e9]; exact EntRd.nil _, X2.out, (fun q h => by cases h), (fun a h => by cases h)⟩
      rw [e9]
      rfl
    · have Hm : Hid (∀ z, z = (if op = 2 then v else min (getE l k + v) 4611686018427387903) → madeE op k v l = (putE l k z, z, 0)) := fun z hz => by
        subst hz
        unfold madeE
        rw [if_neg (fun h => h4 h.1), if_neg h4, if_neg (fun h => hfull ⟨Hhb.out ▸ h.1, Hl.out ▸ h.2⟩)]
      cases hb with
      | true =>
        have hlt : at_ < n := by have := has_lt Hhb.out; rw [Hat.out, Hl.out] at this; exact this
        have M := mid_has (w := w2) Hhb.out ⟨HKL.out, Hl.out, (show w2.ownsRow w.heap.size 102 2 (.slice B n cb) n (entV ks l) from own_base HO.out X1.out.size)⟩ HK.out X2.out hn (K, d)
        obtain ⟨g, n1, c0, l1, ks1, KF, h1, OE, KR, XM, h2, h3, h4e⟩ := M
        have KF' := Lib.hid KF
        have GE := Lib.hid (OE.2.2.lt g rfl)
        clear KF
        injection h1 with e1 e2 e3
        subst e1 e2 e3
        rw [Hat.out] at h2 h4e
        obtain ⟨f1, f2, f3⟩ := own_at_e OE h2
        dsimp only at f1
        obtain ⟨y, Hy⟩ : ∃ y, Hid (getE l k = y) := ⟨_, rfl⟩
        rw [Hy.out] at h2 f1
        have hy := get_ok (k := k) HL.out.2.1
        rw [Hy.out] at hy
        have DN := Lib.hid (fun z => mid_done OE KR XM h2 h4e z)
        clear OE KR XM h2 h4e h3
        by_cases h2o : op = 2
        · subst h2o
          have e9 := Lib.hid (Hm.out v (by rw [if_pos rfl]))
          clear Hm
          go_wp2_with fail
          go_region
          go_wp2_with fail
          go_ret3
          obtain ⟨D1, D2, D3⟩ := DN.out v
          exact ⟨_, _, _, ks1, by rw [e9.out]; rfl, by rw [e9.out]; exact D1, by rw [e9.out]; exact D2, D3.drew, KF'.out, fun a ha => by injection ha with ha; rw [← ha]; exact ⟨GE.out.1, by have h9 := GE.out.2; show g < (World.setCell _ _ _).heap.size; simpa using h9⟩⟩
        · have h2' : ((op : Int) == 2) = false := by simpa using (by omega : (op : Int) ≠ 2)
          have hv := HA.out.2.2.2.2 (by have := HA.out.1; have := HA.out.2.1; omega)
          obtain ⟨z, hz⟩ : ∃ z, min (y + v) 4611686018427387903 = z := ⟨_, rfl⟩
          have e9 := Lib.hid (Hm.out z (by rw [if_neg h2o, Hy.out, hz]))
          have AD := Lib.hid (fun u => tadd_ok y v u hy.1 hy.2 hv.1 hv.2)
          rw [hz] at AD
          clear Hm hz
          go_wp2_with fail
          go_region_with (refine (AD.out _).mono ?_; rintro e w4 ⟨rfl, rfl⟩)
          all_goals
            go_wp2_with fail
            go_region
            go_wp2_with fail
            go_ret3
            obtain ⟨D1, D2, D3⟩ := DN.out z
            exact ⟨_, _, _, ks1, by rw [e9.out]; rfl, by rw [e9.out]; exact D1, by rw [e9.out]; exact D2, D3.drew.drew, KF'.out, fun a ha => by injection ha with ha; rw [← ha]; exact ⟨GE.out.1, by have h9 := GE.out.2; show g < (World.setCell _ _ _).heap.size; simpa using h9⟩⟩
      | false =>
        have hnf : n ≠ 4096 := fun e => hfull ⟨rfl, e⟩
        have hnf' : ((n : Int) == 4096) = false := by simpa using (by omega : (n : Int) ≠ 4096)
        have INS := Lib.hid (fun (u : World) (vb : Nat) (ho : u.ownsRow w1.heap.size 102 2 (.slice B n cb) n (entV ks l)) (hv : u.heap[vb]? = some (.cells #[.slice K m d, .int .i64 0] 102 (0, 0))) (hne : (Value.slice B n cb).ownBlock ≠ some vb) (hb : w1.heap.size ≤ u.heap.size) => sh_insert u w1.heap.size B n cb vb at_ (entV ks l) [.slice K m d, .int .i64 0] (entV_one ks l) rfl (one_two K m d) (by omega) hatn ho hv hne hb)
        have hs1 := X1.out.size
        have hs2 : w1.heap.size ≤ w2.heap.size := hx2s
        go_wp2_with fail
        have xa : Ext w2 (w2.alloc (.cells #[.slice K m d, .int .i64 0] 102)) := (Ext.refl w2).alloc _
        refine (INS.out _ w2.heap.size (own_ext HO.out xa) (blk_new w2 _) (fun e => ?_) (by rw [World.size_alloc]; omega)).mono ?_
        · have := (HO.out.lt _ e).2; omega
        rintro e w3 ⟨A3, c3', rfl, ho3, hg3⟩
        have X3 := (X2.out.alloc _).grown hg3 (fun q hq => Nat.le_trans X1.out.size (HO.out.lt q hq).1)
        have d1 := ext_cell xa c1; have d3 := ext_cell xa c3
        have hbw : w.heap.size < w1.heap.size := hbw1
        have hg3' : (Value.slice B n cb).ownBlock ≠ some w.heap.size := fun e => by have := (HO.out.lt _ e).1; omega
        have e1 : w3.cell? ⟨w.heap.size, 1, none⟩ = some (.int .u8 (op : Int)) := hg3.cell d1 hg3'.symm
        have e3 : w3.cell? ⟨w.heap.size, 3, none⟩ = some (.int .i64 v) := hg3.cell d3 hg3'.symm
        rw [← Hat.out] at ho3
        have M := mid_new (w' := w3) Hhb.out HKL.out Hl.out HK.out Hr.out Hkl.out hkd hn (own_base ho3 X1.out.size) X3
        clear c1 c2 c3 d1 d3 ho3 hg3 hg3' xa X3 INS hnf'
        obtain ⟨g, n1, c0, l1, ks1, KF, h1, OE, KR, XM, h2, h3, h4e⟩ := M
        have KF' := Lib.hid KF
        have GE := Lib.hid (OE.2.2.lt g rfl)
        clear KF
        injection h1 with e1 e2 e3
        subst e1 e2 e3
        rw [Hat.out] at h2 h4e
        obtain ⟨f1, f2, f3⟩ := own_at_e OE h2
        dsimp only at f1
        obtain ⟨y, Hy⟩ : ∃ y, Hid (getE l k = y) := ⟨_, rfl⟩
        rw [Hy.out] at h2 f1
        have hy := get_ok (k := k) HL.out.2.1
        rw [Hy.out] at hy
        have DN := Lib.hid (fun z => mid_done OE KR XM h2 h4e z)
        clear OE KR XM h2 h4e h3
        by_cases h2o : op = 2
        · subst h2o
          have e9 := Lib.hid (Hm.out v (by rw [if_pos rfl]))
          clear Hm
          go_wp2_with fail
          go_region
          go_wp2_with fail
          go_ret3
          obtain ⟨D1, D2, D3⟩ := DN.out v
          exact ⟨_, _, _, ks1, by rw [e9.out]; rfl, by rw [e9.out]; exact D1, by rw [e9.out]; exact D2, D3.drew, KF'.out, fun a ha => by injection ha with ha; rw [← ha]; exact ⟨GE.out.1, by have h9 := GE.out.2; show g < (World.setCell _ _ _).heap.size; simpa using h9⟩⟩
        · have h2' : ((op : Int) == 2) = false := by simpa using (by omega : (op : Int) ≠ 2)
          have hv := HA.out.2.2.2.2 (by have := HA.out.1; have := HA.out.2.1; omega)
          obtain ⟨z, hz⟩ : ∃ z, min (y + v) 4611686018427387903 = z := ⟨_, rfl⟩
          have e9 := Lib.hid (Hm.out z (by rw [if_neg h2o, Hy.out, hz]))
          have AD := Lib.hid (fun u => tadd_ok y v u hy.1 hy.2 hv.1 hv.2)
          rw [hz] at AD
          clear Hm hz
          go_wp2_with fail
          go_region_with (refine (AD.out _).mono ?_; rintro e w4 ⟨rfl, rfl⟩)
          all_goals
            go_wp2_with fail
            go_region
            go_wp2_with fail
            go_ret3
            obtain ⟨D1, D2, D3⟩ := DN.out z
            exact ⟨_, _, _, ks1, by rw [e9.out]; rfl, by rw [e9.out]; exact D1, by rw [e9.out]; exact D2, D3.drew.drew, KF'.out, fun a ha => by injection ha with ha; rw [← ha]; exact ⟨GE.out.1, by have h9 := GE.out.2; show g < (World.setCell _ _ _).heap.size; simpa using h9⟩⟩
end Go.Proofs.Ytlgggeeflomelaa
