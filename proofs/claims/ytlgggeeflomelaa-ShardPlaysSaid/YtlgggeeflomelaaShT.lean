/- law 14: done: a call that is done at once. -/
import Derived.Test.YtlgggeeflomelaaShS
import Derived.Test.YtlgggeeflomelaaNum3
namespace Go.Proofs.Ytlgggeeflomelaa
open Go.RowKit

/-- the map behind a call, its error, its number -/
def doneE (l : List Ent) (op : Nat) (key : List Nat) (val : Int) : List Ent × Nat × Int :=
  if hasE l key = false ∧ (op = 1 ∨ op = 4) then (l, 7, 0) else if op = 1 then (l, 0, getE l key) else if op = 4 then (dropE l key, 0, getE l key)
  else (putE l key (if op = 2 then val else min (getE l key + val) 4611686018427387903), 0, if op = 2 then val else min (getE l key + val) 4611686018427387903)
def DoneR (r : List Ent × Nat × Int) (P : Kref → List Nat → Prop) (A : Option Addr) (w : World) (e : Ending) (w' : World) : Prop :=
  ∃ B c kk, e = .returned (.tuple #[.slice B r.1.length c, .agg #[.bool true, .int .i64 (r.2.1 : Int), .int .i64 r.2.2]]) ∧ EntRd w' B r.1 kk ∧ (∀ p ∈ kk.zip r.1, P p.1 p.2.1) ∧ (∀ a, B = some a → A = some a ∨ (w.heap.size ≤ a.block ∧ a.block < w'.heap.size)) ∧ Ext w w'
theorem done_none {l : List Ent} {op : Nat} {key : List Nat} {val : Int} (h : hasE l key = false) (ho : op = 1 ∨ op = 4) : doneE l op key val = (l, 7, 0) := if_pos ⟨h, ho⟩
theorem done_get {l : List Ent} {key : List Nat} {val : Int} (h : hasE l key = true) : doneE l 1 key val = (l, 0, getE l key) := by
  unfold doneE
  rw [if_neg (by rw [h]; simp), if_pos rfl]
theorem done_drop {l : List Ent} {key : List Nat} {val : Int} (h : hasE l key = true) : doneE l 4 key val = (dropE l key, 0, getE l key) := by
  unfold doneE
  rw [if_neg (by rw [h]; simp), if_neg (by omega), if_pos rfl]
theorem done_put {l : List Ent} {key : List Nat} {val : Int} : doneE l 2 key val = (putE l key val, 0, val) := by
  unfold doneE
  rw [if_neg (by omega), if_neg (by omega), if_neg (by omega), if_pos rfl]
theorem done_add {l : List Ent} {key : List Nat} {val : Int} : doneE l 3 key val = (putE l key (min (getE l key + val) 4611686018427387903), 0, min (getE l key + val) 4611686018427387903) := by
  unfold doneE
  rw [if_neg (by omega), if_neg (by omega), if_neg (by omega), if_neg (by omega)]
/-- what is known of each key: it reads so at the beginning -/
def P2 (P : Kref → List Nat → Prop) (w : World) : Kref → List Nat → Prop := fun q x => P q x ∧ x.length ≤ q.2 ∧ Rd w q.1 (vals .u8 x)
theorem done_fin {w X Y w' : World} {P : Kref → List Nat → Prop} {A B5 : Option Addr} {c5 : Nat} {kk5 : List Kref} {l' : List Ent} {nu : Int} (HR5 : EntRd Y B5 l' kk5) (HP5 : ∀ p ∈ kk5.zip l', P2 P w p.1 p.2.1) (hB : ∀ a, B5 = some a → X.heap.size ≤ a.block ∧ a.block < Y.heap.size) (hX : w.heap.size + 1 < X.heap.size) (x : Ext w Y)
    (g : GB Y w' (· = w.heap.size + 1)) : DoneR (l', 0, nu) P A w (.returned (.tuple #[.slice B5 l'.length c5, .agg #[.bool true, .int .i64 0, .int .i64 nu]])) w' :=
  have xw : Ext w w' := g.to_ext x (fun i e => by omega)
  ⟨B5, c5, kk5, rfl, EntRd.of HR5.1 (g.rd HR5.2.1 (fun p hp e => by have := (hB p hp).1; omega)) (fun p hp => ⟨(HP5 p hp).2.1, (HP5 p hp).2.2.ext xw⟩), fun p hp => (HP5 p hp).1, fun a ha => .inr ⟨by have := (hB a ha).1; omega, Nat.lt_of_lt_of_le (hB a ha).2 g.size⟩, xw⟩
theorem cell3 {w : World} {g g' i : Nat} {a b c v : Value} (h : w.cell? ⟨g', i, none⟩ = some v) (hne : g' ≠ g) : (((w.setCell ⟨g, 0, none⟩ a).setCell ⟨g, 1, none⟩ b).setCell ⟨g, 2, none⟩ c).cell? ⟨g', i, none⟩ = some v := ((((GB.refl w (· = g)).set g 0 a (.inl rfl)).set g 1 b (.inl rfl)).set g 2 c (.inl rfl)).cell h hne
theorem ext_set {w v : World} (x : Ext w v) {g i : Nat} {u : Value} (h : w.heap.size ≤ g) : Ext w (v.setCell ⟨g, i, none⟩ u) := ((GB.refl v (· = g)).set g i u (.inl rfl)).to_ext x (fun _ e => e ▸ h)
theorem blk_off {w : World} {g g' i : Nat} {v : Value} {cs : Array Value} {t : TypeId} {fr : Nat × Nat} (h : w.heap[g]? = some (.cells cs t fr)) (hne : g ≠ g') : (w.setCell ⟨g', i, none⟩ v).heap[g]? = some (.cells cs t fr) := ((GB.refl w (· = g')).set g' i v (.inl rfl)).blk h hne
set_option maxHeartbeats 4000000 in
set_option maxRecDepth 100000 in
theorem done_any (w : World) (A K : Option Addr) (n c m d op : Nat) (who val : Int) (l : List Ent) (ks : List Kref) (key : List Nat) (hl : l.length = n) (hL : LstOk l) (hE : EntRd w A l ks) (hkl : key.length = m) (hmd : m ≤ d) (ha : AskOk op key val) (hr : Rd w K (vals .u8 key)) (P : Kref → List Nat → Prop) (hP : ∀ p ∈ ks.zip l, P p.1 p.2.1) (hPK : P (K, d) key) :
    Calls Try.prog 50 #[.slice A n c, .agg #[.int .i64 who, .int .u8 (op : Int), .slice K m d, .int .i64 val]] w (DoneR (doneE l op key val) P A w) := by
  have hn : n ≤ 4096 := by rw [← hl]; exact hL.2.2
  have hm : m ≤ 256 := by rw [← hkl]; exact ha.2.2.1
  have Hl := Lib.hid hl; have HL := Lib.hid hL; have HE := Lib.hid hE; have Hkl := Lib.hid hkl; have HA := Lib.hid ha; have Hr := Lib.hid hr; have HP := Lib.hid hP; have HPK := Lib.hid hPK
  clear hl hL hE hkl ha hr hP hPK
  go_enter Try.func50, Try.ntmps50
  go_upto_region 2 with fail
  obtain ⟨W, hW⟩ : ∃ W, ((w.alloc (.cells #[.int .i64 who, .int .u8 (op : Int), .slice K m d, .int .i64 val] 70)).alloc (.cells #[.bool false, .int .i64 0, .int .i64 0] 74)).alloc (.cells #[.bool true, .int .i64 0, .int .i64 0] 74) = W := ⟨_, rfl⟩
  have xW : Ext w W := by rw [← hW]; exact (((Ext.refl w).alloc _).alloc _).alloc _
  have KP := Lib.hid (show W.heap[w.heap.size]? = some (.cells #[.int .i64 who, .int .u8 (op : Int), .slice K m d, .int .i64 val] 70 (0, 0)) by rw [← hW]; exact blk_ext (blk_new w _) (((Ext.refl _).alloc _).alloc _))
  have KZ := Lib.hid (show W.heap[w.heap.size + 1]? = some (.cells #[.bool false, .int .i64 0, .int .i64 0] 74 (0, 0)) by rw [← hW]; have := blk_new (w.alloc (.cells #[.int .i64 who, .int .u8 (op : Int), .slice K m d, .int .i64 val] 70)) (.cells #[.bool false, .int .i64 0, .int .i64 0] 74); rw [World.size_alloc] at this; exact blk_ext this ((Ext.refl _).alloc _))
  have KR := Lib.hid (show W.heap[w.heap.size + 1 + 1]? = some (.cells #[.bool true, .int .i64 0, .int .i64 0] 74 (0, 0)) by rw [← hW]; have := blk_new ((w.alloc (.cells #[.int .i64 who, .int .u8 (op : Int), .slice K m d, .int .i64 val] 70)).alloc (.cells #[.bool false, .int .i64 0, .int .i64 0] 74)) (.cells #[.bool true, .int .i64 0, .int .i64 0] 74); rw [World.size_alloc, World.size_alloc] at this; exact this)
  have FD := Lib.hid (rfind_any W A K n c m d l ks key Hl.out HL.out (HE.out.ext xW) Hkl.out (by omega) HA.out.2.2.2.1 (Hr.out.ext xW))
  obtain ⟨at_, Hat⟩ : ∃ a, Hid (findI l key = a) := ⟨_, rfl⟩
  rw [Hat.out] at FD
  rw [hW]
  have XW := Lib.hid xW
  clear hW xW
  have k2 : W.cell? ⟨w.heap.size, 2, none⟩ = some (.slice K m d) := blk_cell KP.out 2
  go_wp2_with fail
  refine FD.out.mono ?_
  rintro e V ⟨rfl, xV⟩
  have KPV := Lib.hid (blk_ext KP.out xV); have KZV := Lib.hid (blk_ext KZ.out xV); have KRV := Lib.hid (blk_ext KR.out xV)
  have XV := Lib.hid (XW.out.trans xV)
  clear xV k2
  have p1 : V.cell? ⟨w.heap.size, 1, none⟩ = some (.int .u8 (op : Int)) := blk_cell KPV.out 1
  have p2 : V.cell? ⟨w.heap.size, 2, none⟩ = some (.slice K m d) := blk_cell KPV.out 2
  have p3 : V.cell? ⟨w.heap.size, 3, none⟩ = some (.int .i64 val) := blk_cell KPV.out 3
  have z0 := blk_cell KZV.out 0; have z1 := blk_cell KZV.out 1; have z2 := blk_cell KZV.out 2
  have y0 := blk_frozen KZV.out 0; have y1 := blk_frozen KZV.out 1; have y2 := blk_frozen KZV.out 2
  have r0 := blk_cell KRV.out 0; have r1 := blk_cell KRV.out 1; have r2 := blk_cell KRV.out 2
  have s0 := blk_frozen KRV.out 0; have s1 := blk_frozen KRV.out 1; have s2 := blk_frozen KRV.out 2
  have hop := HA.out.1; have hop4 := HA.out.2.1
  have HP2 := Lib.hid (show ∀ p ∈ ks.zip l, P2 P w p.1 p.2.1 from fun p hp => ⟨HP.out p hp, HE.out.keys p hp⟩)
  have HPK2 := Lib.hid (show P2 P w (K, d) key from ⟨HPK.out, by rw [Hkl.out]; exact hmd, Hr.out⟩)
  by_cases hh : hasE l key = true
  · have hlt := has_lt hh
    obtain ⟨v, hv, hg⟩ := has_get hh
    have e9 : at_ = (atE l key : Int) := by rw [← Hat.out]; exact if_pos hh
    rw [Hl.out] at hlt
    obtain ⟨a, Ha⟩ : ∃ a, Hid (atE l key = a) := ⟨_, rfl⟩
    obtain ⟨b, off, K1, kc1, hA1, -, -, d1, -, -⟩ := (HE.out.ext XV.out).at_ hv
    have HG := Lib.hid hg
    rw [Ha.out] at e9 hlt d1
    subst e9 hA1
    dsimp only at d1
    have hlt' : (a : Int) < (n : Int) := by omega
    have ha0 : (0 : Int) ≤ (a : Int) := by omega
    have ha1 : ¬ (a : Int) < 0 := by omega
    clear hv hg
    rcases (by omega : op = 1 ∨ op = 4 ∨ op = 2 ∨ op = 3) with ho | ho | ho | ho
    · subst ho
      have HD := Lib.hid (done_get (val := val) hh)
      rw [HG.out] at HD
      have HH := Lib.hid hh
      clear hh
      go_wp2_with fail
      go_region
      go_wp2_with fail
      refine bodyPost_ret (results_tmp_row (p := 5) (u := 4) rfl _ _ (w.heap.size + 1) _ #[.bool true, .int .i64 0, .int .i64 v] (0, 0) _ rfl (row3 (blk_off KZV.out (by omega)) _ _ _) Try.underlying74 (by rfl) (by kernel_rfl)) rfl ?_
      rw [HD.out]
      refine ⟨some ⟨b, off, none⟩, c, ks, ?_, HE.out.ext ?_, HP.out, fun a ha => .inl ha, ?_⟩
      · show _ = Ending.returned (.tuple #[.slice (some ⟨b, off, none⟩) l.length c, .agg #[.bool true, .int .i64 ((0 : Nat) : Int), .int .i64 v]])
        rw [Hl.out]
        rfl
      · (repeat (first | exact XV.out | refine Ext.drew ?_ | refine ext_set ?_ (by omega)))
      · (repeat (first | exact XV.out | refine Ext.drew ?_ | refine ext_set ?_ (by omega)))
    · subst ho
      have HD := Lib.hid (done_drop (val := val) hh)
      rw [HG.out] at HD
      have HH := Lib.hid hh
      clear hh
      have KRU := KRV; have KZU := KZV; have KPU := KPV; have XU := XV
      obtain ⟨X, hX⟩ : ∃ X, V.setCell ⟨w.heap.size + 1 + 1, 2, none⟩ (.int .i64 v) = X := ⟨_, rfl⟩
      have gX : GB V X (· = w.heap.size + 1 + 1) := by rw [← hX]; exact (GB.refl V _).set _ _ _ (.inl rfl)
      have KRX := Lib.hid (show X.heap[w.heap.size + 1 + 1]? = some (.cells #[.bool true, .int .i64 0, .int .i64 v] 74 (0, 0)) by rw [← hX]; exact blk_set KRU.out 2 _)
      have KZX := Lib.hid (gX.blk KZU.out (by omega)); have KPX := Lib.hid (gX.blk KPU.out (by omega))
      have EX := Lib.hid (show Ext w X from gX.to_ext XU.out (fun i e => by omega))
      go_upto_region 12 with fail
      (try rw [hX])
      clear hX gX p1 p2 p3 z0 z1 z2 y0 y1 y2 r0 r1 r2 s0 s1 s2 d1
      have p2 : X.cell? ⟨w.heap.size, 2, none⟩ = some (.slice K m d) := blk_cell KPX.out 2
      have r0 : X.cell? ⟨w.heap.size + 1 + 1, 0, none⟩ = some (.bool true) := blk_cell KRX.out 0; have r1 : X.cell? ⟨w.heap.size + 1 + 1, 1, none⟩ = some (.int .i64 0) := blk_cell KRX.out 1; have r2 : X.cell? ⟨w.heap.size + 1 + 1, 2, none⟩ = some (.int .i64 v) := blk_cell KRX.out 2
      have hz1 : w.heap.size + 1 + 1 ≠ w.heap.size + 1 := by omega
      have hz2 : w.heap.size ≠ w.heap.size + 1 := by omega
      have CL := Lib.hid (fun (u : World) (x : Ext X u) => rdrop_any u (some ⟨b, off, none⟩) K n c m d l ks key Hl.out HL.out (HE.out.ext (EX.out.trans x)) Hkl.out hm hmd HA.out.2.2.2.1 (Hr.out.ext (EX.out.trans x)) (P2 P w) HP2.out HPK2.out HH.out)
      go_region_held3 (fun u => u.cell? ⟨w.heap.size + 1 + 1, 0, none⟩ = some (.bool true) ∧ u.cell? ⟨w.heap.size + 1 + 1, 1, none⟩ = some (.int .i64 0) ∧ u.cell? ⟨w.heap.size + 1 + 1, 2, none⟩ = some (.int .i64 v) ∧ u.cell? ⟨w.heap.size, 2, none⟩ = some (.slice K m d))
        (((try dsimp only); refine ⟨?_, ?_, ?_, ?_⟩ <;> first | (with_reducible exact drew_cell r0) | (with_reducible exact drew_cell r1) | (with_reducible exact drew_cell r2) | (with_reducible exact drew_cell p2) | (with_reducible assumption) | (with_reducible exact cell3 t0 hz1) | (with_reducible exact cell3 t1 hz1) | (with_reducible exact cell3 t2 hz1) | (with_reducible exact cell3 t3 hz2)))
        ((go_at_call 75; (with_reducible refine (CL.out _ (by first | exact Ext.refl X | exact (Ext.refl X).drew)).mono ?_); rintro e Y ⟨B5, c5, kk5, rfl, hR5, hP5, hB5, x5⟩; have HR5 := Lib.hid hR5; have HP5 := Lib.hid hP5; have HB5 := Lib.hid hB5; have XY := Lib.hid ((Ext.refl X).drew.trans x5); have KRY := Lib.hid (blk_ext KRX.out XY.out); have KZY := Lib.hid (blk_ext KZX.out XY.out); have KPY := Lib.hid (blk_ext KPX.out XY.out); have t0 : Y.cell? ⟨w.heap.size + 1 + 1, 0, none⟩ = some (.bool true) := blk_cell KRY.out 0; have t1 : Y.cell? ⟨w.heap.size + 1 + 1, 1, none⟩ = some (.int .i64 0) := blk_cell KRY.out 1; have t2 : Y.cell? ⟨w.heap.size + 1 + 1, 2, none⟩ = some (.int .i64 v) := blk_cell KRY.out 2; have t3 : Y.cell? ⟨w.heap.size, 2, none⟩ = some (.slice K m d) := blk_cell KPY.out 2; have t4 := blk_cell KZY.out 0; have t5 := blk_cell KZY.out 1; have t6 := blk_cell KZY.out 2; have t7 := blk_frozen KZY.out 0; have t8 := blk_frozen KZY.out 1; have t9 := blk_frozen KZY.out 2; clear hR5 hP5 hB5 x5))
      all_goals
        go_wp2_with fail
        refine bodyPost_ret (results_tmp_row (p := 5) (u := 4) rfl _ _ (w.heap.size + 1) _ #[.bool true, .int .i64 0, .int .i64 v] (0, 0) _ rfl (row3 KZY.out _ _ _) Try.underlying74 (by rfl) (by kernel_rfl)) rfl ?_
        rw [HD.out]
        refine done_fin (l' := dropE l key) HR5.out HP5.out HB5.out (blk_lt KZX.out) (EX.out.trans XY.out) ?_
        (repeat (first | exact GB.refl _ _ | refine GB.drew ?_ | refine GB.set ?_ _ _ _ (.inl rfl)))
    · subst ho
      have HD := Lib.hid (done_put (l := l) (key := key) (val := val))
      have HH := Lib.hid hh
      clear hh
      have KRU := KRV; have KZU := KZV; have KPU := KPV; have XU := XV
      obtain ⟨X, hX⟩ : ∃ X, V.setCell ⟨w.heap.size + 1 + 1, 2, none⟩ (.int .i64 val) = X := ⟨_, rfl⟩
      have gX : GB V X (· = w.heap.size + 1 + 1) := by rw [← hX]; exact (GB.refl V _).set _ _ _ (.inl rfl)
      have KRX := Lib.hid (show X.heap[w.heap.size + 1 + 1]? = some (.cells #[.bool true, .int .i64 0, .int .i64 val] 74 (0, 0)) by rw [← hX]; exact blk_set KRU.out 2 _)
      have KZX := Lib.hid (gX.blk KZU.out (by omega)); have KPX := Lib.hid (gX.blk KPU.out (by omega))
      have EX := Lib.hid (show Ext w X from gX.to_ext XU.out (fun i e => by omega))
      go_upto_region 15 with fail
      (try rw [hX])
      clear hX gX p1 p2 p3 z0 z1 z2 y0 y1 y2 r0 r1 r2 s0 s1 s2 d1
      have p2 : X.cell? ⟨w.heap.size, 2, none⟩ = some (.slice K m d) := blk_cell KPX.out 2
      have r0 : X.cell? ⟨w.heap.size + 1 + 1, 0, none⟩ = some (.bool true) := blk_cell KRX.out 0; have r1 : X.cell? ⟨w.heap.size + 1 + 1, 1, none⟩ = some (.int .i64 0) := blk_cell KRX.out 1; have r2 : X.cell? ⟨w.heap.size + 1 + 1, 2, none⟩ = some (.int .i64 val) := blk_cell KRX.out 2
      have hz1 : w.heap.size + 1 + 1 ≠ w.heap.size + 1 := by omega
      have hz2 : w.heap.size ≠ w.heap.size + 1 := by omega
      have CL := Lib.hid (fun (u : World) (x : Ext X u) => rput_any u (some ⟨b, off, none⟩) K n c m d val l ks key Hl.out HL.out (HE.out.ext (EX.out.trans x)) Hkl.out hm hmd HA.out.2.2.2.1 (Hr.out.ext (EX.out.trans x)) (P2 P w) HP2.out HPK2.out)
      go_region_held3 (fun u => u.cell? ⟨w.heap.size + 1 + 1, 0, none⟩ = some (.bool true) ∧ u.cell? ⟨w.heap.size + 1 + 1, 1, none⟩ = some (.int .i64 0) ∧ u.cell? ⟨w.heap.size + 1 + 1, 2, none⟩ = some (.int .i64 val) ∧ u.cell? ⟨w.heap.size, 2, none⟩ = some (.slice K m d))
        (((try dsimp only); refine ⟨?_, ?_, ?_, ?_⟩ <;> first | (with_reducible exact drew_cell r0) | (with_reducible exact drew_cell r1) | (with_reducible exact drew_cell r2) | (with_reducible exact drew_cell p2) | (with_reducible assumption) | (with_reducible exact cell3 t0 hz1) | (with_reducible exact cell3 t1 hz1) | (with_reducible exact cell3 t2 hz1) | (with_reducible exact cell3 t3 hz2)))
        ((go_at_call 76; (with_reducible refine (CL.out _ (by first | exact Ext.refl X | exact (Ext.refl X).drew)).mono ?_); rintro e Y ⟨B5, c5, kk5, rfl, hR5, hP5, hB5, x5⟩; have HR5 := Lib.hid hR5; have HP5 := Lib.hid hP5; have HB5 := Lib.hid hB5; have XY := Lib.hid ((Ext.refl X).drew.trans x5); have KRY := Lib.hid (blk_ext KRX.out XY.out); have KZY := Lib.hid (blk_ext KZX.out XY.out); have KPY := Lib.hid (blk_ext KPX.out XY.out); have t0 : Y.cell? ⟨w.heap.size + 1 + 1, 0, none⟩ = some (.bool true) := blk_cell KRY.out 0; have t1 : Y.cell? ⟨w.heap.size + 1 + 1, 1, none⟩ = some (.int .i64 0) := blk_cell KRY.out 1; have t2 : Y.cell? ⟨w.heap.size + 1 + 1, 2, none⟩ = some (.int .i64 val) := blk_cell KRY.out 2; have t3 : Y.cell? ⟨w.heap.size, 2, none⟩ = some (.slice K m d) := blk_cell KPY.out 2; have t4 := blk_cell KZY.out 0; have t5 := blk_cell KZY.out 1; have t6 := blk_cell KZY.out 2; have t7 := blk_frozen KZY.out 0; have t8 := blk_frozen KZY.out 1; have t9 := blk_frozen KZY.out 2; clear hR5 hP5 hB5 x5))
      all_goals
        go_wp2_with fail
        refine bodyPost_ret (results_tmp_row (p := 5) (u := 4) rfl _ _ (w.heap.size + 1) _ #[.bool true, .int .i64 0, .int .i64 val] (0, 0) _ rfl (row3 KZY.out _ _ _) Try.underlying74 (by rfl) (by kernel_rfl)) rfl ?_
        rw [HD.out]
        refine done_fin (l' := putE l key val) HR5.out HP5.out HB5.out (blk_lt KZX.out) (EX.out.trans XY.out) ?_
        (repeat (first | exact GB.refl _ _ | refine GB.drew ?_ | refine GB.set ?_ _ _ _ (.inl rfl)))
    · subst ho
      obtain ⟨z, hz⟩ : ∃ z, min (getE l key + val) 4611686018427387903 = z := ⟨_, rfl⟩
      have HD := Lib.hid (done_add (l := l) (key := key) (val := val))
      rw [hz] at HD
      have hg9 := get_ok (k := key) HL.out.2.1
      have hv9 := HA.out.2.2.2.2 (by omega)
      obtain ⟨gn, Hgn⟩ : ∃ gn : Nat, Hid (getE l key = (gn : Int)) := ⟨(getE l key).toNat, show getE l key = _ by omega⟩
      obtain ⟨vn, rfl⟩ : ∃ vn : Nat, val = (vn : Int) := ⟨val.toNat, by omega⟩
      rw [Hgn.out] at hz hg9
      have VL := Lib.hid (fun (u : World) (x : Ext w u) => rvalue_any u (some ⟨b, off, none⟩) K n c m d l ks key Hl.out HL.out (HE.out.ext x) Hkl.out (by omega) HA.out.2.2.2.1 (Hr.out.ext x))
      rw [Hgn.out] at VL
      have AD := Lib.hid (fun (u : World) => radd_any gn vn u hg9.2 hv9.2)
      rw [hz] at AD
      have Hh := Lib.hid hh
      clear hz hg9 hv9 hh
      go_upto_region 3 with fail
      go_region_held3 (fun u => u.cell? ⟨w.heap.size, 2, none⟩ = some (.slice K m d) ∧ u.cell? ⟨w.heap.size, 3, none⟩ = some (.int .i64 (vn : Int)))
        (((try dsimp only); refine ⟨?_, ?_⟩ <;> first | (with_reducible exact drew_cell p2) | (with_reducible exact drew_cell p3) | (with_reducible assumption)))
        (first
          | (go_at_call 74; (with_reducible refine (VL.out _ (by first | exact XV.out | exact XV.out.drew)).mono ?_); rintro e Y1 ⟨rfl, x1⟩; have X1 := Lib.hid ((Ext.refl V).drew.trans x1); have p21 := ext_cell X1.out p2; have p31 := ext_cell X1.out p3; clear x1)
          | (go_at_call 73; (with_reducible refine (AD.out _).mono ?_); rintro e U ⟨rfl, x2⟩; have X2 := Lib.hid (X1.out.trans x2); have KRU := Lib.hid (blk_ext KRV.out X2.out); have KZU := Lib.hid (blk_ext KZV.out X2.out); have KPU := Lib.hid (blk_ext KPV.out X2.out); have XU := Lib.hid (XV.out.trans X2.out); have p22 := ext_cell X2.out p2; have p32 := ext_cell X2.out p3; have u2 := blk_cell KRU.out 2; have v2 := blk_frozen KRU.out 2; have p23 : (U.setCell ⟨w.heap.size + 1 + 1, 2, none⟩ (.int .i64 z)).cell? ⟨w.heap.size, 2, none⟩ = some (.slice K m d) := ((GB.refl U (· = w.heap.size + 1 + 1)).set _ 2 _ (.inl rfl)).cell p22 (by show ¬ (w.heap.size = w.heap.size + 1 + 1); omega); have p33 : (U.setCell ⟨w.heap.size + 1 + 1, 2, none⟩ (.int .i64 z)).cell? ⟨w.heap.size, 3, none⟩ = some (.int .i64 (vn : Int)) := ((GB.refl U (· = w.heap.size + 1 + 1)).set _ 2 _ (.inl rfl)).cell p32 (by show ¬ (w.heap.size = w.heap.size + 1 + 1); omega); clear x2))
      all_goals
        obtain ⟨X, hX⟩ : ∃ X, U.setCell ⟨w.heap.size + 1 + 1, 2, none⟩ (.int .i64 z) = X := ⟨_, rfl⟩
        have gX : GB U X (· = w.heap.size + 1 + 1) := by rw [← hX]; exact (GB.refl U _).set _ _ _ (.inl rfl)
        have KRX := Lib.hid (show X.heap[w.heap.size + 1 + 1]? = some (.cells #[.bool true, .int .i64 0, .int .i64 z] 74 (0, 0)) by rw [← hX]; exact blk_set KRU.out 2 _)
        have KZX := Lib.hid (gX.blk KZU.out (by omega)); have KPX := Lib.hid (gX.blk KPU.out (by omega))
        have EX := Lib.hid (show Ext w X from gX.to_ext XU.out (fun i e => by omega))
        go_upto_region 15 with fail
        (try rw [show (U.setCell ⟨w.heap.size + 1 + 1, 2, none⟩ (.int .i64 z)).drew = X.drew by rw [hX]])
        (try rw [hX])
        clear hX gX p1 p2 p3 z0 z1 z2 y0 y1 y2 r0 r1 r2 s0 s1 s2 p21 p31 p22 p32 p23 p33 u2 v2 d1
        have p2 : X.cell? ⟨w.heap.size, 2, none⟩ = some (.slice K m d) := blk_cell KPX.out 2
        have r0 : X.cell? ⟨w.heap.size + 1 + 1, 0, none⟩ = some (.bool true) := blk_cell KRX.out 0; have r1 : X.cell? ⟨w.heap.size + 1 + 1, 1, none⟩ = some (.int .i64 0) := blk_cell KRX.out 1; have r2 : X.cell? ⟨w.heap.size + 1 + 1, 2, none⟩ = some (.int .i64 z) := blk_cell KRX.out 2
        have hz1 : w.heap.size + 1 + 1 ≠ w.heap.size + 1 := by omega
        have hz2 : w.heap.size ≠ w.heap.size + 1 := by omega
        have CL := Lib.hid (fun (u : World) (x : Ext X u) => rput_any u (some ⟨b, off, none⟩) K n c m d z l ks key Hl.out HL.out (HE.out.ext (EX.out.trans x)) Hkl.out hm hmd HA.out.2.2.2.1 (Hr.out.ext (EX.out.trans x)) (P2 P w) HP2.out HPK2.out)
        go_region_held3 (fun u => u.cell? ⟨w.heap.size + 1 + 1, 0, none⟩ = some (.bool true) ∧ u.cell? ⟨w.heap.size + 1 + 1, 1, none⟩ = some (.int .i64 0) ∧ u.cell? ⟨w.heap.size + 1 + 1, 2, none⟩ = some (.int .i64 z) ∧ u.cell? ⟨w.heap.size, 2, none⟩ = some (.slice K m d))
          (((try dsimp only); refine ⟨?_, ?_, ?_, ?_⟩ <;> first | (with_reducible exact drew_cell r0) | (with_reducible exact drew_cell r1) | (with_reducible exact drew_cell r2) | (with_reducible exact drew_cell p2) | (with_reducible assumption) | (with_reducible exact cell3 t0 hz1) | (with_reducible exact cell3 t1 hz1) | (with_reducible exact cell3 t2 hz1) | (with_reducible exact cell3 t3 hz2)))
          ((go_at_call 76; (with_reducible refine (CL.out _ (by first | exact Ext.refl X | exact (Ext.refl X).drew)).mono ?_); rintro e Y ⟨B5, c5, kk5, rfl, hR5, hP5, hB5, x5⟩; have HR5 := Lib.hid hR5; have HP5 := Lib.hid hP5; have HB5 := Lib.hid hB5; have XY := Lib.hid ((Ext.refl X).drew.trans x5); have KRY := Lib.hid (blk_ext KRX.out XY.out); have KZY := Lib.hid (blk_ext KZX.out XY.out); have KPY := Lib.hid (blk_ext KPX.out XY.out); have t0 : Y.cell? ⟨w.heap.size + 1 + 1, 0, none⟩ = some (.bool true) := blk_cell KRY.out 0; have t1 : Y.cell? ⟨w.heap.size + 1 + 1, 1, none⟩ = some (.int .i64 0) := blk_cell KRY.out 1; have t2 : Y.cell? ⟨w.heap.size + 1 + 1, 2, none⟩ = some (.int .i64 z) := blk_cell KRY.out 2; have t3 : Y.cell? ⟨w.heap.size, 2, none⟩ = some (.slice K m d) := blk_cell KPY.out 2; have t4 := blk_cell KZY.out 0; have t5 := blk_cell KZY.out 1; have t6 := blk_cell KZY.out 2; have t7 := blk_frozen KZY.out 0; have t8 := blk_frozen KZY.out 1; have t9 := blk_frozen KZY.out 2; clear hR5 hP5 hB5 x5))
        all_goals
          go_wp2_with fail
          refine bodyPost_ret (results_tmp_row (p := 5) (u := 4) rfl _ _ (w.heap.size + 1) _ #[.bool true, .int .i64 0, .int .i64 z] (0, 0) _ rfl (row3 KZY.out _ _ _) Try.underlying74 (by rfl) (by kernel_rfl)) rfl ?_
          rw [HD.out]
          refine done_fin (l' := putE l key z) HR5.out HP5.out HB5.out (blk_lt KZX.out) (EX.out.trans XY.out) ?_
          (repeat (first | exact GB.refl _ _ | refine GB.drew ?_ | refine GB.set ?_ _ _ _ (.inl rfl)))
  · have e9 : at_ = -1 := by rw [← Hat.out]; exact if_neg hh
    subst e9
    have hf : hasE l key = false := by simpa using hh
    rcases (by omega : op = 1 ∨ op = 4 ∨ op = 2 ∨ op = 3) with ho | ho | ho | ho
    · subst ho
      have HD := Lib.hid (done_none (val := val) hf (by omega : 1 = 1 ∨ 1 = 4))
      clear hf hh
      go_wp2_with fail
      go_region
      go_wp2_with fail
      refine bodyPost_ret (results_tmp_row (p := 5) (u := 4) rfl _ _ (w.heap.size + 1) _ #[.bool true, .int .i64 7, .int .i64 0] (0, 0) _ rfl (row3 (blk_off KZV.out (by omega)) _ _ _) Try.underlying74 (by rfl) (by kernel_rfl)) rfl ?_
      rw [HD.out]
      refine ⟨A, c, ks, ?_, HE.out.ext ?_, HP.out, fun a ha => .inl ha, ?_⟩
      · show _ = Ending.returned (.tuple #[.slice (A) l.length c, .agg #[.bool true, .int .i64 ((7 : Nat) : Int), .int .i64 0]])
        rw [Hl.out]
        rfl
      · (repeat (first | exact XV.out | refine Ext.drew ?_ | refine ext_set ?_ (by omega)))
      · (repeat (first | exact XV.out | refine Ext.drew ?_ | refine ext_set ?_ (by omega)))
    · subst ho
      have HD := Lib.hid (done_none (val := val) hf (by omega : 4 = 1 ∨ 4 = 4))
      clear hf hh
      go_wp2_with fail
      go_region
      go_wp2_with fail
      refine bodyPost_ret (results_tmp_row (p := 5) (u := 4) rfl _ _ (w.heap.size + 1) _ #[.bool true, .int .i64 7, .int .i64 0] (0, 0) _ rfl (row3 (blk_off KZV.out (by omega)) _ _ _) Try.underlying74 (by rfl) (by kernel_rfl)) rfl ?_
      rw [HD.out]
      refine ⟨A, c, ks, ?_, HE.out.ext ?_, HP.out, fun a ha => .inl ha, ?_⟩
      · show _ = Ending.returned (.tuple #[.slice (A) l.length c, .agg #[.bool true, .int .i64 ((7 : Nat) : Int), .int .i64 0]])
        rw [Hl.out]
        rfl
      · (repeat (first | exact XV.out | refine Ext.drew ?_ | refine ext_set ?_ (by omega)))
      · (repeat (first | exact XV.out | refine Ext.drew ?_ | refine ext_set ?_ (by omega)))
    · subst ho
      have HD := Lib.hid (done_put (l := l) (key := key) (val := val))
      clear hf hh
      have KRU := KRV; have KZU := KZV; have KPU := KPV; have XU := XV
      obtain ⟨X, hX⟩ : ∃ X, V.setCell ⟨w.heap.size + 1 + 1, 2, none⟩ (.int .i64 val) = X := ⟨_, rfl⟩
      have gX : GB V X (· = w.heap.size + 1 + 1) := by rw [← hX]; exact (GB.refl V _).set _ _ _ (.inl rfl)
      have KRX := Lib.hid (show X.heap[w.heap.size + 1 + 1]? = some (.cells #[.bool true, .int .i64 0, .int .i64 val] 74 (0, 0)) by rw [← hX]; exact blk_set KRU.out 2 _)
      have KZX := Lib.hid (gX.blk KZU.out (by omega)); have KPX := Lib.hid (gX.blk KPU.out (by omega))
      have EX := Lib.hid (show Ext w X from gX.to_ext XU.out (fun i e => by omega))
      go_upto_region 15 with fail
      (try rw [hX])
      clear hX gX p1 p2 p3 z0 z1 z2 y0 y1 y2 r0 r1 r2 s0 s1 s2
      have p2 : X.cell? ⟨w.heap.size, 2, none⟩ = some (.slice K m d) := blk_cell KPX.out 2
      have r0 : X.cell? ⟨w.heap.size + 1 + 1, 0, none⟩ = some (.bool true) := blk_cell KRX.out 0; have r1 : X.cell? ⟨w.heap.size + 1 + 1, 1, none⟩ = some (.int .i64 0) := blk_cell KRX.out 1; have r2 : X.cell? ⟨w.heap.size + 1 + 1, 2, none⟩ = some (.int .i64 val) := blk_cell KRX.out 2
      have hz1 : w.heap.size + 1 + 1 ≠ w.heap.size + 1 := by omega
      have hz2 : w.heap.size ≠ w.heap.size + 1 := by omega
      have CL := Lib.hid (fun (u : World) (x : Ext X u) => rput_any u (A) K n c m d val l ks key Hl.out HL.out (HE.out.ext (EX.out.trans x)) Hkl.out hm hmd HA.out.2.2.2.1 (Hr.out.ext (EX.out.trans x)) (P2 P w) HP2.out HPK2.out)
      go_region_held3 (fun u => u.cell? ⟨w.heap.size + 1 + 1, 0, none⟩ = some (.bool true) ∧ u.cell? ⟨w.heap.size + 1 + 1, 1, none⟩ = some (.int .i64 0) ∧ u.cell? ⟨w.heap.size + 1 + 1, 2, none⟩ = some (.int .i64 val) ∧ u.cell? ⟨w.heap.size, 2, none⟩ = some (.slice K m d))
        (((try dsimp only); refine ⟨?_, ?_, ?_, ?_⟩ <;> first | (with_reducible exact drew_cell r0) | (with_reducible exact drew_cell r1) | (with_reducible exact drew_cell r2) | (with_reducible exact drew_cell p2) | (with_reducible assumption) | (with_reducible exact cell3 t0 hz1) | (with_reducible exact cell3 t1 hz1) | (with_reducible exact cell3 t2 hz1) | (with_reducible exact cell3 t3 hz2)))
        ((go_at_call 76; (with_reducible refine (CL.out _ (by first | exact Ext.refl X | exact (Ext.refl X).drew)).mono ?_); rintro e Y ⟨B5, c5, kk5, rfl, hR5, hP5, hB5, x5⟩; have HR5 := Lib.hid hR5; have HP5 := Lib.hid hP5; have HB5 := Lib.hid hB5; have XY := Lib.hid ((Ext.refl X).drew.trans x5); have KRY := Lib.hid (blk_ext KRX.out XY.out); have KZY := Lib.hid (blk_ext KZX.out XY.out); have KPY := Lib.hid (blk_ext KPX.out XY.out); have t0 : Y.cell? ⟨w.heap.size + 1 + 1, 0, none⟩ = some (.bool true) := blk_cell KRY.out 0; have t1 : Y.cell? ⟨w.heap.size + 1 + 1, 1, none⟩ = some (.int .i64 0) := blk_cell KRY.out 1; have t2 : Y.cell? ⟨w.heap.size + 1 + 1, 2, none⟩ = some (.int .i64 val) := blk_cell KRY.out 2; have t3 : Y.cell? ⟨w.heap.size, 2, none⟩ = some (.slice K m d) := blk_cell KPY.out 2; have t4 := blk_cell KZY.out 0; have t5 := blk_cell KZY.out 1; have t6 := blk_cell KZY.out 2; have t7 := blk_frozen KZY.out 0; have t8 := blk_frozen KZY.out 1; have t9 := blk_frozen KZY.out 2; clear hR5 hP5 hB5 x5))
      all_goals
        go_wp2_with fail
        refine bodyPost_ret (results_tmp_row (p := 5) (u := 4) rfl _ _ (w.heap.size + 1) _ #[.bool true, .int .i64 0, .int .i64 val] (0, 0) _ rfl (row3 KZY.out _ _ _) Try.underlying74 (by rfl) (by kernel_rfl)) rfl ?_
        rw [HD.out]
        refine done_fin (l' := putE l key val) HR5.out HP5.out HB5.out (blk_lt KZX.out) (EX.out.trans XY.out) ?_
        (repeat (first | exact GB.refl _ _ | refine GB.drew ?_ | refine GB.set ?_ _ _ _ (.inl rfl)))
    · subst ho
      obtain ⟨z, hz⟩ : ∃ z, min (getE l key + val) 4611686018427387903 = z := ⟨_, rfl⟩
      have HD := Lib.hid (done_add (l := l) (key := key) (val := val))
      rw [hz] at HD
      have hg9 := get_ok (k := key) HL.out.2.1
      have hv9 := HA.out.2.2.2.2 (by omega)
      obtain ⟨gn, Hgn⟩ : ∃ gn : Nat, Hid (getE l key = (gn : Int)) := ⟨(getE l key).toNat, show getE l key = _ by omega⟩
      obtain ⟨vn, rfl⟩ : ∃ vn : Nat, val = (vn : Int) := ⟨val.toNat, by omega⟩
      rw [Hgn.out] at hz hg9
      have VL := Lib.hid (fun (u : World) (x : Ext w u) => rvalue_any u (A) K n c m d l ks key Hl.out HL.out (HE.out.ext x) Hkl.out (by omega) HA.out.2.2.2.1 (Hr.out.ext x))
      rw [Hgn.out] at VL
      have AD := Lib.hid (fun (u : World) => radd_any gn vn u hg9.2 hv9.2)
      rw [hz] at AD
      clear hz hg9 hv9 hh hf
      go_upto_region 3 with fail
      go_region_held3 (fun u => u.cell? ⟨w.heap.size, 2, none⟩ = some (.slice K m d) ∧ u.cell? ⟨w.heap.size, 3, none⟩ = some (.int .i64 (vn : Int)))
        (((try dsimp only); refine ⟨?_, ?_⟩ <;> first | (with_reducible exact drew_cell p2) | (with_reducible exact drew_cell p3) | (with_reducible assumption)))
        (first
          | (go_at_call 74; (with_reducible refine (VL.out _ (by first | exact XV.out | exact XV.out.drew)).mono ?_); rintro e Y1 ⟨rfl, x1⟩; have X1 := Lib.hid ((Ext.refl V).drew.trans x1); have p21 := ext_cell X1.out p2; have p31 := ext_cell X1.out p3; clear x1)
          | (go_at_call 73; (with_reducible refine (AD.out _).mono ?_); rintro e U ⟨rfl, x2⟩; have X2 := Lib.hid (X1.out.trans x2); have KRU := Lib.hid (blk_ext KRV.out X2.out); have KZU := Lib.hid (blk_ext KZV.out X2.out); have KPU := Lib.hid (blk_ext KPV.out X2.out); have XU := Lib.hid (XV.out.trans X2.out); have p22 := ext_cell X2.out p2; have p32 := ext_cell X2.out p3; have u2 := blk_cell KRU.out 2; have v2 := blk_frozen KRU.out 2; have p23 : (U.setCell ⟨w.heap.size + 1 + 1, 2, none⟩ (.int .i64 z)).cell? ⟨w.heap.size, 2, none⟩ = some (.slice K m d) := ((GB.refl U (· = w.heap.size + 1 + 1)).set _ 2 _ (.inl rfl)).cell p22 (by show ¬ (w.heap.size = w.heap.size + 1 + 1); omega); have p33 : (U.setCell ⟨w.heap.size + 1 + 1, 2, none⟩ (.int .i64 z)).cell? ⟨w.heap.size, 3, none⟩ = some (.int .i64 (vn : Int)) := ((GB.refl U (· = w.heap.size + 1 + 1)).set _ 2 _ (.inl rfl)).cell p32 (by show ¬ (w.heap.size = w.heap.size + 1 + 1); omega); clear x2))
      all_goals
        obtain ⟨X, hX⟩ : ∃ X, U.setCell ⟨w.heap.size + 1 + 1, 2, none⟩ (.int .i64 z) = X := ⟨_, rfl⟩
        have gX : GB U X (· = w.heap.size + 1 + 1) := by rw [← hX]; exact (GB.refl U _).set _ _ _ (.inl rfl)
        have KRX := Lib.hid (show X.heap[w.heap.size + 1 + 1]? = some (.cells #[.bool true, .int .i64 0, .int .i64 z] 74 (0, 0)) by rw [← hX]; exact blk_set KRU.out 2 _)
        have KZX := Lib.hid (gX.blk KZU.out (by omega)); have KPX := Lib.hid (gX.blk KPU.out (by omega))
        have EX := Lib.hid (show Ext w X from gX.to_ext XU.out (fun i e => by omega))
        go_upto_region 15 with fail
        (try rw [show (U.setCell ⟨w.heap.size + 1 + 1, 2, none⟩ (.int .i64 z)).drew = X.drew by rw [hX]])
        (try rw [hX])
        clear hX gX p1 p2 p3 z0 z1 z2 y0 y1 y2 r0 r1 r2 s0 s1 s2 p21 p31 p22 p32 p23 p33 u2 v2
        have p2 : X.cell? ⟨w.heap.size, 2, none⟩ = some (.slice K m d) := blk_cell KPX.out 2
        have r0 : X.cell? ⟨w.heap.size + 1 + 1, 0, none⟩ = some (.bool true) := blk_cell KRX.out 0; have r1 : X.cell? ⟨w.heap.size + 1 + 1, 1, none⟩ = some (.int .i64 0) := blk_cell KRX.out 1; have r2 : X.cell? ⟨w.heap.size + 1 + 1, 2, none⟩ = some (.int .i64 z) := blk_cell KRX.out 2
        have hz1 : w.heap.size + 1 + 1 ≠ w.heap.size + 1 := by omega
        have hz2 : w.heap.size ≠ w.heap.size + 1 := by omega
        have CL := Lib.hid (fun (u : World) (x : Ext X u) => rput_any u (A) K n c m d z l ks key Hl.out HL.out (HE.out.ext (EX.out.trans x)) Hkl.out hm hmd HA.out.2.2.2.1 (Hr.out.ext (EX.out.trans x)) (P2 P w) HP2.out HPK2.out)
        go_region_held3 (fun u => u.cell? ⟨w.heap.size + 1 + 1, 0, none⟩ = some (.bool true) ∧ u.cell? ⟨w.heap.size + 1 + 1, 1, none⟩ = some (.int .i64 0) ∧ u.cell? ⟨w.heap.size + 1 + 1, 2, none⟩ = some (.int .i64 z) ∧ u.cell? ⟨w.heap.size, 2, none⟩ = some (.slice K m d))
          (((try dsimp only); refine ⟨?_, ?_, ?_, ?_⟩ <;> first | (with_reducible exact drew_cell r0) | (with_reducible exact drew_cell r1) | (with_reducible exact drew_cell r2) | (with_reducible exact drew_cell p2) | (with_reducible assumption) | (with_reducible exact cell3 t0 hz1) | (with_reducible exact cell3 t1 hz1) | (with_reducible exact cell3 t2 hz1) | (with_reducible exact cell3 t3 hz2)))
          ((go_at_call 76; (with_reducible refine (CL.out _ (by first | exact Ext.refl X | exact (Ext.refl X).drew)).mono ?_); rintro e Y ⟨B5, c5, kk5, rfl, hR5, hP5, hB5, x5⟩; have HR5 := Lib.hid hR5; have HP5 := Lib.hid hP5; have HB5 := Lib.hid hB5; have XY := Lib.hid ((Ext.refl X).drew.trans x5); have KRY := Lib.hid (blk_ext KRX.out XY.out); have KZY := Lib.hid (blk_ext KZX.out XY.out); have KPY := Lib.hid (blk_ext KPX.out XY.out); have t0 : Y.cell? ⟨w.heap.size + 1 + 1, 0, none⟩ = some (.bool true) := blk_cell KRY.out 0; have t1 : Y.cell? ⟨w.heap.size + 1 + 1, 1, none⟩ = some (.int .i64 0) := blk_cell KRY.out 1; have t2 : Y.cell? ⟨w.heap.size + 1 + 1, 2, none⟩ = some (.int .i64 z) := blk_cell KRY.out 2; have t3 : Y.cell? ⟨w.heap.size, 2, none⟩ = some (.slice K m d) := blk_cell KPY.out 2; have t4 := blk_cell KZY.out 0; have t5 := blk_cell KZY.out 1; have t6 := blk_cell KZY.out 2; have t7 := blk_frozen KZY.out 0; have t8 := blk_frozen KZY.out 1; have t9 := blk_frozen KZY.out 2; clear hR5 hP5 hB5 x5))
        all_goals
          go_wp2_with fail
          refine bodyPost_ret (results_tmp_row (p := 5) (u := 4) rfl _ _ (w.heap.size + 1) _ #[.bool true, .int .i64 0, .int .i64 z] (0, 0) _ rfl (row3 KZY.out _ _ _) Try.underlying74 (by rfl) (by kernel_rfl)) rfl ?_
          rw [HD.out]
          refine done_fin (l' := putE l key z) HR5.out HP5.out HB5.out (blk_lt KZX.out) (EX.out.trans XY.out) ?_
          (repeat (first | exact GB.refl _ _ | refine GB.drew ?_ | refine GB.set ?_ _ _ _ (.inl rfl)))
end Go.Proofs.Ytlgggeeflomelaa
