/- Laid together: what 'TopGivenBack' needs, part 11 of 12. -/
import Derived.Shelf.Small.Bits
import Derived.Test.YtloidkmphigbdaaGreatProg
import Derived.Test.YtloidkmphigbdaaGreatBTopGivenBack1
import Derived.Test.YtloidkmphigbdaaGreatBTopGivenBack2
import Derived.Test.YtloidkmphigbdaaGreatBTopGivenBack3
import Derived.Test.YtloidkmphigbdaaGreatBTopGivenBack6
import Derived.Test.YtloidkmphigbdaaGreatBTopGivenBack10
namespace Go.Proofs.YtloidkmphigbdaaGreat
set_option linter.all false

section
open Go.RowKit

/-- one more block that may be written -/
theorem CoRd.more {w : World} {C O : Nat → Prop} {g : CoK} {q : Nat} (h : CoRd w (XO C O) g) (hq : ∀ a, g.PA = some a → a.block < q) : CoRd w (XO (fun i => C i ∨ i = q) O) g :=
  ⟨h.c0, h.c1, h.c2, h.l0, h.l1, h.b0, h.prd, fun a ha => ⟨fun e => by
    rcases e with (e | e) | e
    · exact (h.pfz a ha).1 (.inl e)
    · have := hq a ha; omega
    · exact (h.pfz a ha).1 (.inr e), (h.pfz a ha).2⟩⟩
def StartK (w : World) (g : CoK) (O C : Nat → Prop) (xb : Nat → Nat) (L : List AccE) (s : KSt) (who : Nat) (x : PCall) (e : Ending) (w' : World) : Prop :=
  ∃ q C', e = .returned (.int .i64 0) ∧ CoMov w g O C (xbSet xb who q) L (s.put who (.run x false 0 (.find (sumK x.id) .begin))) C' w'
set_option maxRecDepth 100000 in
set_option maxHeartbeats 4000000 in
theorem kstart_sema (w : World) (g : CoK) (O C : Nat → Prop) (xb : Nat → Nat) (L : List AccE) (s : KSt) (who pol kl kc op : Nat) (N : Int) (K : Option Addr) (key : List Nat) (h : CoAt w g O C xb L s) (hi : s.call who = .idle) (hw : who < 64)
    (h32 : g.P.length ≤ 32) (hP : ∀ p ∈ g.P, PolOk p) (hop : op = 2 ∨ op = 3) (hpol : pol < g.P.length) (hk : (polAt g.P pol).kind = 2) (hl : key.length = kl) (hn : kl ≤ 255) (hb : ∀ x ∈ key, x < 256) (hr : Rd w K (vals .u8 key)) (_hkc : kl ≤ kc) :
    Calls Tryz.prog 41 #[ptrV g.gx, .int .i64 (who : Int), .agg #[.int .u8 (op : Int), .int .i64 (pol : Int), .slice K kl kc, .int .i64 N]] w (StartK w g O C xb L s who ⟨op, pol, key, N⟩) := by
  obtain ⟨W, hW⟩ : ∃ W, (w.alloc (.cells #[.int .u8 (op : Int), .int .i64 (pol : Int), .slice K kl kc, .int .i64 N] 34)) = W := ⟨_, rfl⟩
  have xW : Ext w W := by rw [← hW]; exact ((Ext.refl w).alloc _)
  have IS := Lib.hid (kis_ok who W hw)
  have K0 := Lib.hid (show W.heap[w.heap.size]? = some (.cells #[.int .u8 (op : Int), .int .i64 (pol : Int), .slice K kl kc, .int .i64 N] 34 (0, 0)) by rw [← hW]; exact blk_new w _)
  have rd := h.rd
  have a0 := ext_cell xW rd.c0
  have CH := Lib.hid (check_sema g.P g.PA K g.P.length g.pc pol kl kc op N W rfl h32 hP (rd.prd.ext xW) (by rcases hop with rfl | rfl <;> simp) hpol hk hn)
  obtain ⟨f, xf, -, -, pv, -⟩ := h.pend hw
  rw [hi] at pv
  obtain rfl : f = .nilFunc := pv
  have XF := Lib.hid xf
  have HK := Lib.hid (fun u (y : Ext W u) => kbclone_any K kl kc key u hl (by omega) ((hr.ext xW).ext y))
  have HH := Lib.hid h; have Hi := Lib.hid hi
  have XW := Lib.hid xW; have HW := Lib.hid hW
  have c0 : W.cell? ⟨w.heap.size, 0, none⟩ = some (.int .u8 (op : Int)) := blk_cell K0.out 0
  have c1 : W.cell? ⟨w.heap.size, 1, none⟩ = some (.int .i64 (pol : Int)) := blk_cell K0.out 1
  have c2 : W.cell? ⟨w.heap.size, 2, none⟩ = some (.slice K kl kc) := blk_cell K0.out 2
  have c3 : W.cell? ⟨w.heap.size, 3, none⟩ = some (.int .i64 N) := blk_cell K0.out 3
  have HP := Lib.hid hP; have HB := Lib.hid hb
  have Hlen := Lib.hid hl
  have hwi : (who : Int) < 64 := by omega
  have hq0 : ∀ (u : World), (binOp .neq 139 .nilFunc .nilFunc).run Tryz.prog u = .ok (.bool false) u := fun _ => rfl
  clear h rd hr xW hW hP hb hl xf hi
  go_enter Tryz.func41, Tryz.ntmps41
  go_upto_region 1 with fail
  (try rw [HW.out])
  clear HW
  go_wp2_with fail
  refine IS.out.mono ?_
  rintro e w1 ⟨rfl, rfl⟩
  go_wp2_with fail
  refine CH.out.mono ?_
  rintro e w1 ⟨rfl, hx⟩
  have HX := Lib.hid hx
  have K1 := Lib.hid (blk_ext K0.out hx)
  clear c0 c1 c2 c3
  have c0 : w1.cell? ⟨w.heap.size, 0, none⟩ = some (.int .u8 (op : Int)) := blk_cell K1.out 0
  have c1 : w1.cell? ⟨w.heap.size, 1, none⟩ = some (.int .i64 (pol : Int)) := blk_cell K1.out 1
  have c2 : w1.cell? ⟨w.heap.size, 2, none⟩ = some (.slice K kl kc) := blk_cell K1.out 2
  have c3 : w1.cell? ⟨w.heap.size, 3, none⟩ = some (.int .i64 N) := blk_cell K1.out 3
  have xf := ext_cell (XW.out.trans hx) XF.out
  have z2 : w1.frozen? ⟨w.heap.size, 2, none⟩ = false := blk_frozen K1.out 2
  clear hx
  go_upto_region 13 with fail
  clear IS CH
  go_wp2_with fail
  refine (HK.out _ HX.out).mono ?_
  rintro e w2 ⟨K2, kc2, rfl, ho, hx⟩
  rw [Hlen.out] at ho ⊢
  have HO := Lib.hid ho
  have K2b := Lib.hid (blk_ext K1.out hx)
  have X2 := Lib.hid ((XW.out.trans HX.out).trans hx)
  obtain ⟨w3, hw3⟩ : ∃ w3, w2.setCell ⟨w.heap.size, 2, none⟩ (.slice K2 kl kc2) = w3 := ⟨_, rfl⟩
  have x3 : Ext w w3 := by rw [← hw3]; exact X2.out.setCell (p := ⟨w.heap.size, 2, none⟩) (Nat.le_refl _) _
  have k3 : w3.heap[w.heap.size]? = some (.cells #[.int .u8 (op : Int), .int .i64 (pol : Int), .slice K2 kl kc2, .int .i64 N] 34 (0, 0)) := by rw [← hw3]; exact blk_set K2b.out 2 _
  have g3 : GB w2 w3 (· = w.heap.size) := by rw [← hw3]; exact (GB.refl w2 (· = w.heap.size)).set w.heap.size 2 _ (.inl rfl)
  have hbk : ∀ a, K2 = some a → w.heap.size < a.block ∧ a.block < w2.heap.size := fun a ha => by
    obtain ⟨a1, a2, -⟩ := own_at_ge ho a ha
    exact ⟨Nat.lt_of_lt_of_le (blk_lt K1.out) a1, a2⟩
  have r3 : Rd w3 K2 (vals .u8 key) := fun hne => by
    obtain ⟨b, off, e, hc⟩ := rd_of_own_s ho hne
    have hb9 := hbk _ e
    exact ⟨b, off, e, fun j u hu => (World.cell?_of_block (g3.block b hb9.2 (fun e9 => Nat.lt_irrefl _ (e9 ▸ hb9.1)))).trans (hc j u hu)⟩
  have b3 : ∀ a, K2 = some a → w.heap.size ≤ a.block ∧ a.block < w3.heap.size := fun a ha => ⟨Nat.le_of_lt (hbk a ha).1, Nat.lt_of_lt_of_le (hbk a ha).2 g3.size⟩
  have hkc2 := own_cap ho
  have A3 := Lib.hid (HH.out.ext x3)
  obtain ⟨f3, xf3, zf3, hCgx, pf3, -⟩ := A3.out.pend hw
  rw [Hi.out] at pf3
  obtain rfl : f3 = .nilFunc := pf3
  have hltC := HH.out.lt
  have hltO := HH.out.ol
  have ngx : w.heap.size ≠ g.gx := fun e => by have := hltC g.gx hCgx; omega
  have SM := Lib.hid (fun u (y : Ext w3 u) => ksum_any pol K2 kl kc2 key u (by omega) Hlen.out hn HB.out (r3.ext y))
  have XS := Lib.hid (fun u v (y : Ext w3 u) (y2 : Ext (u.alloc (.cells #[.int .u8 (op : Int), .int .i64 (pol : Int), .slice K2 kl kc2, .int .i64 N, ptrV g.gx, .int .i64 (who : Int), .int .u64 (sumK (pol :: key) : Int), .bool false, .int .i64 0] 206 (0, 0))) v) =>
    (⟨⟨_, K2, kc2, (blk_ext (blk_new u _) y2).trans (by rw [← Hlen.out]; rfl), by show key.length ≤ kc2; rw [Hlen.out]; exact hkc2, (r3.ext y).ext (((Ext.refl u).alloc _).trans y2), fun a ha => by
        have h9 := b3 a ha
        have h2 := y.size; have h3 := y2.size; simp at h3
        refine ⟨fun e => ?_, by omega⟩
        rcases e with (e | e) | e
        · have := hltC _ e; omega
        · omega
        · have := hltO _ e; omega⟩, by have h3 := y2.size; simp at h3; omega, by have h3 := y.size; have h4 := x3.size; omega⟩ :
      XAt v (XO (fun i => C i ∨ i = u.heap.size) O) g.gx who ⟨op, pol, key, N⟩ false 0 u.heap.size ∧ u.heap.size < v.heap.size ∧ w.heap.size ≤ u.heap.size))
  have FS := Lib.hid (fun u v (y : Ext w3 u) (y2 : Ext (u.alloc (.cells #[.int .u8 (op : Int), .int .i64 (pol : Int), .slice K2 kl kc2, .int .i64 N, ptrV g.gx, .int .i64 (who : Int), .int .u64 (sumK (pol :: key) : Int), .bool false, .int .i64 0] 206 (0, 0))) v) =>
    cfirst_begin v (XO (fun i => C i ∨ i = u.heap.size) O) g who u.heap.size ⟨op, pol, key, N⟩ false 0
      (fun i hi => by
        have h1 := x3.size; have h2 := y.size; have h3 := y2.size; simp at h3
        rcases hi with (hi | hi) | hi
        · have := hltC i hi; omega
        · omega
        · have := hltO i hi; omega)
      (XS.out u v y y2).1
      (((A3.out.rd.ext y).ext (((Ext.refl u).alloc _).trans y2)).more (fun a ha => by have := (A3.out.rd.pfz a ha).2; have h2 := y.size; omega)) hpol h32 (by show op ≠ 6; omega) (by show op ≠ 5; omega))
  have d0 : w3.cell? ⟨w.heap.size, 0, none⟩ = some (.int .u8 (op : Int)) := blk_cell k3 0
  have d1 : w3.cell? ⟨w.heap.size, 1, none⟩ = some (.int .i64 (pol : Int)) := blk_cell k3 1
  have d2 : w3.cell? ⟨w.heap.size, 2, none⟩ = some (.slice K2 kl kc2) := blk_cell k3 2
  have d3 : w3.cell? ⟨w.heap.size, 3, none⟩ = some (.int .i64 N) := blk_cell k3 3
  have HW3 := Lib.hid hw3
  have X3 := Lib.hid x3
  have c2' : w2.cell? ⟨w.heap.size, 2, none⟩ = some (.slice K kl kc) := blk_cell K2b.out 2
  have z2' : w2.frozen? ⟨w.heap.size, 2, none⟩ = false := blk_frozen K2b.out 2
  clear ho hx c0 c1 c2 c3 xf z2 hw3 x3 k3 g3 hbk r3 b3 hkc2 hltC hltO hk
  go_upto_region 14 with fail
  rw [HW3.out]
  go_region_held3 (fun w' => w'.cell? ⟨w.heap.size, 0, none⟩ = some (.int .u8 (op : Int)) ∧ w'.cell? ⟨w.heap.size, 1, none⟩ = some (.int .i64 (pol : Int)) ∧ w'.cell? ⟨w.heap.size, 2, none⟩ = some (.slice K2 kl kc2) ∧ w'.cell? ⟨w.heap.size, 3, none⟩ = some (.int .i64 N))
    (((try go_split_ands); exact ⟨(by first | (with_reducible exact drew_cell d0) | (with_reducible exact d0) | (with_reducible exact td0) | (with_reducible exact drew_cell td0) | (with_reducible assumption) | (with_reducible exact cell_past td0 _) | (with_reducible exact drew_cell (cell_past d0 _))), (by first | (with_reducible exact drew_cell d1) | (with_reducible exact d1) | (with_reducible exact td1) | (with_reducible exact drew_cell td1) | (with_reducible assumption) | (with_reducible exact cell_past td1 _) | (with_reducible exact drew_cell (cell_past d1 _))), (by first | (with_reducible exact drew_cell d2) | (with_reducible exact d2) | (with_reducible exact td2) | (with_reducible exact drew_cell td2) | (with_reducible assumption) | (with_reducible exact cell_past td2 _) | (with_reducible exact drew_cell (cell_past d2 _))), (by first | (with_reducible exact drew_cell d3) | (with_reducible exact d3) | (with_reducible exact td3) | (with_reducible exact drew_cell td3) | (with_reducible assumption) | (with_reducible exact cell_past td3 _) | (with_reducible exact drew_cell (cell_past d3 _)))⟩))
    (first
      | (go_at_call 86; (with_reducible refine (SM.out _ (by first | (with_reducible exact Ext.refl _) | (with_reducible exact (Ext.refl _).drew))).mono ?_); rintro e w4 ⟨rfl, hy⟩; have HY := Lib.hid ((Ext.refl w3).drew.trans hy); have td0 := ext_cell (HY.out) d0; have td1 := ext_cell (HY.out) d1; have td2 := ext_cell (HY.out) d2; have td3 := ext_cell (HY.out) d3; have txf3 := ext_cell (HY.out) xf3; clear hy)
      | (go_at_call 87; (with_reducible refine (FS.out _ _ HY.out (by first | (with_reducible exact Ext.refl _) | (with_reducible exact (Ext.refl _).drew))).mono ?_); rintro e w6 ⟨f, rfl, hk, hx⟩; obtain ⟨fi, ci, rfl⟩ := KontAt.fn hk; have HKK := Lib.hid hk; have HXA := Lib.hid (XS.out _ _ HY.out hx); have HX6 := Lib.hid (((Ext.refl w4).alloc _).trans hx); have u0 := ext_cell HX6.out td0; have u1 := ext_cell HX6.out td1; have u2 := ext_cell HX6.out td2; have u3 := ext_cell HX6.out td3; have xf6 := ext_cell HX6.out txf3; have zf6 := frz_ext (HY.out.trans HX6.out) xf3 zf3; have v0 := cell_other (i := 3 + who) (u := fnV fi ci) u0 ngx; have v1 := cell_other (i := 3 + who) (u := fnV fi ci) u1 ngx; have v2 := cell_other (i := 3 + who) (u := fnV fi ci) u2 ngx; have v3 := cell_other (i := 3 + who) (u := fnV fi ci) u3 ngx; clear hk hx))
  all_goals
    go_wp2_with fail
    go_ret
    exact ⟨_, _, rfl, HH.out.start hw Hi.out (X3.out.trans (HY.out.trans HX6.out)) HXA.out.2.2 HXA.out.2.1 HXA.out.1 HKK.out⟩
end

section
open Go.RowKit

theorem pend_run {w : World} {gd : Nat} {g : CoK} {C : Nat → Prop} {xb : Nat → Nat} {L : List AccE} {ks : KSt} {dr : Bool} {ls : Nat → LSt} {D : Nat → Nat → Prop} (h : DaeAt w gd g C xb L ks dr ls D) (n : Nat) (hn : n < 63) :
    Calls Tryz.prog 15 #[ptrV g.gx, .int .i64 (n : Int)] w fun e w' => e = .returned (.bool (isRun (ks.call n))) ∧ w = w' := by
  obtain ⟨h1, -⟩ := h.core
  exact kpend_any w g _ C xb L ks n h1 (by omega)
/-- the box of a line's address -/
theorem DaeGo.box {w W w1 : World} {gd bx N : Nat} {g : CoK} {C : Nat → Prop} {D : Nat → Nat → Prop} {ks : KSt} {dr : Bool} {ls : Nat → LSt} {v : Value} (h : DaeGo W gd g C D N ks dr ls w1) (hlt : ∀ i, DSet gd C D i → i < w.heap.size) (hb : w.heap.size ≤ bx) (hbW : bx < W.heap.size) (hc : W.cell? ⟨bx, 0, none⟩ = some v) :
    ∃ C' xb' L' D', L'.length ≤ N ∧ DaeAt w1 gd g C' xb' L' ks dr ls D' ∧ GB W w1 (DSet gd C D) ∧ (∀ i, DSet gd C' D' i → DSet gd C D i ∨ W.heap.size ≤ i) ∧ w1.cell? ⟨bx, 0, none⟩ = some v ∧ ¬ DSet gd C' D' bx := by
  obtain ⟨C', xb', L', D', h1, h2, h3, h4⟩ := h
  have hn : ¬ DSet gd C D bx := fun e => by have := hlt _ e; omega
  exact ⟨C', xb', L', D', h1, h2, h3, h4, h3.cell hc hn, fun e => (h4 _ e).elim hn (fun e => by omega)⟩
theorem DaeGo.took {w W w1 w2 : World} {gd N n : Nat} {g : CoK} {C C1 : Nat → Prop} {D D1 : Nat → Nat → Prop} {ks : KSt} {dr : Bool} {ls : Nat → LSt} {xb : Nat → Nat} {L : List AccE} {l : LSt} (x : Ext w W) (hN : L.length ≤ N) (g1 : GB W w1 (DSet gd C D)) (n1 : ∀ i, DSet gd C1 D1 i → DSet gd C D i ∨ W.heap.size ≤ i) (h : TakeG w1 gd g C1 xb L ks dr (upd1 ls n l) D1 n w2) :
    DaeGo w gd g C D N ks dr (upd1 ls n (takeL l)) w2 := by
  obtain ⟨D2, a1, a2, a3⟩ := h
  rw [upd1_self, upd1_upd1] at a1
  refine DaeGo.back x ⟨C1, xb, L, D2, hN, a1, g1.trans a2 n1, fun i hi => ?_⟩
  rcases a3 i hi with e | e
  · exact n1 i e
  · exact .inr (Nat.le_trans g1.size e)
/-- access, step: from a daemon to another -/
def AccTo (g : CoK) (n : Nat) (a b : DSt) : Prop := ∀ (w : World) (gd : Nat) (C : Nat → Prop) (xb : Nat → Nat) (L : List AccE) (D : Nat → Nat → Prop), DaeAt w gd g C xb L a.ks a.dr a.ls D → L.length ≤ 100000 →
  Calls Tryz.prog 102 #[ptrV gd, .int .i64 (n : Int), .pointer (some ⟨gd, 1 + n * 6, none⟩)] w fun e w' => e = .returned (.tuple #[]) ∧ DaeGo w gd g C D (L.length + 1) b.ks b.dr b.ls w'
def StepTo (g : CoK) (n : Nat) (a b : DSt) : Prop := ∀ (w : World) (gd : Nat) (C : Nat → Prop) (xb : Nat → Nat) (L : List AccE) (D : Nat → Nat → Prop), DaeAt w gd g C xb L a.ks a.dr a.ls D → L.length ≤ 100000 →
  Calls Tryz.prog 58 #[ptrV gd, .int .i64 (n : Int), .pointer (some ⟨gd, 1 + n * 6, none⟩)] w fun e w' => e = .returned (.tuple #[]) ∧ DaeGo w gd g C D (L.length + 1) b.ks b.dr b.ls w'
/-- Start of a call that is right -/
def StartTo (g : CoK) (n : Nat) (ks : KSt) (x : PCall) : Prop := ∀ (u : World) (O C : Nat → Prop) (xb : Nat → Nat) (L : List AccE) (K : Option Addr) (m kc : Nat), CoAt u g O C xb L ks → x.key.length = m → m ≤ kc → Rd u K (vals .u8 x.key) →
  Calls Tryz.prog 41 #[ptrV g.gx, .int .i64 (n : Int), .agg #[.int .u8 (x.op : Int), .int .i64 (x.pol : Int), .slice K m kc, .int .i64 x.n]] u fun e w' => ∃ q C', e = .returned (.int .i64 0) ∧ CoMov u g O C (xbSet xb n q) L (startK ks n x) C' w'
theorem startTo_sema {g : CoK} {n : Nat} {ks : KSt} {x : PCall} (hi : ks.call n = .idle) (hn : n < 64) (h32 : g.P.length ≤ 32) (hP : ∀ p ∈ g.P, PolOk p) (hop : x.op = 2 ∨ x.op = 3) (hpol : x.pol < g.P.length) (hk : (polAt g.P x.pol).kind = 2) (hl : x.key.length ≤ 255) (hb : ∀ y ∈ x.key, y < 256) : StartTo g n ks x := fun u O C xb L K m kc h hm hc hr => by
  subst hm
  refine (kstart_sema u g O C xb L ks n x.pol x.key.length kc x.op x.n K x.key h hi hn h32 hP hop hpol hk rfl hl hb hr hc).mono ?_
  rintro e w' ⟨q, C', he, hm⟩
  refine ⟨q, C', he, ?_⟩
  unfold startK firstK
  rw [if_neg (by omega), if_neg (by omega)]
  exact hm
theorem accTo_on {g : CoK} {n : Nat} {a : DSt} (hn : n < 63) (ok : KOk g.P a.ks n) (hk : (kStep g.P g.room a.ks n).2 = none) : AccTo g n a { a with ks := (kStep g.P g.room a.ks n).1 } := fun w gd C xb L D h hL => dacc_on w gd g C xb L a.ks a.dr a.ls D n h hn hL ok hk
theorem accTo_rep {g : CoK} {n : Nat} {a : DSt} (hn : n < 63) (ok : KOk g.P a.ks n) {rp : KRep} (hk : (kStep g.P g.room a.ks n).2 = some rp) (hrel : (a.ls n).rel = false) {s : CSt} (hs : (a.ls n).cn = some s) (hi : CInv s) (hwr : s.wr.length ≤ 1000000) (hled : s.led.length ≤ 100000 - 1) {c : CCall} (ho : s.out = some c) (hrp : RepOk rp) :
    AccTo g n a { a with ks := (kStep g.P g.room a.ks n).1, ls := upd1 a.ls n (repliedL (a.ls n) rp) } := fun w gd C xb L D h hL => dacc_rep w gd g C xb L a.ks a.dr a.ls D n h hn hL ok rp hk hrel s hs hi hwr hled c ho hrp
theorem accTo_rel {g : CoK} {n : Nat} {a : DSt} (hn : n < 63) (ok : KOk g.P a.ks n) {rp : KRep} (hk : (kStep g.P g.room a.ks n).2 = some rp) (hrel : (a.ls n).rel = true) {t : CTok} {ts : List CTok} (hts : (a.ls n).toks = t :: ts) (htl : ts.length ≤ 100000) :
    AccTo g n a { a with ks := (kStep g.P g.room a.ks n).1, ls := upd1 a.ls n { a.ls n with toks := ts, rel := false } } := fun w gd C xb L D h hL => dacc_rel w gd g C xb L a.ks a.dr a.ls D n h hn hL ok rp hk hrel t ts hts htl
set_option maxRecDepth 100000 in
set_option maxHeartbeats 2000000 in
theorem stepTo_pend {g : CoK} {n : Nat} {a : DSt} {ks' : KSt} {l' : LSt} {s' : CSt} (hn : n < 63) (hrun : isRun (a.ks.call n) = true) (AC : AccTo g n a ⟨ks', upd1 a.ls n l', a.dr⟩) (hs : l'.cn = some s') (hl1 : l'.wr.length ≤ 1000000) (hl2 : s'.wr.length ≤ 1000000) :
    StepTo g n a ⟨ks', upd1 a.ls n (takeL l'), a.dr⟩ := by
  intro w gd C xb L D h hL
  obtain ⟨ks, ls, dr⟩ := a
  dsimp only at hrun AC h ⊢
  have hmf := hmfC
  obtain ⟨W, hW⟩ : ∃ W, (w.alloc (.cells #[.pointer (some ⟨gd, 1 + n * 6, none⟩)] 165)) = W := ⟨_, rfl⟩
  have xW : Ext w W := by rw [← hW]; exact (Ext.refl w).alloc _
  have k0 : W.heap[w.heap.size]? = some (.cells #[.pointer (some ⟨gd, 1 + n * 6, none⟩)] 165 (0, 0)) := by rw [← hW]; exact blk_new w _
  have hA := h.ext xW
  have PN := Lib.hid (pend_run hA n hn)
  rw [hrun] at PN
  have ACC := Lib.hid (AC W gd C xb L D hA hL)
  have HLT := Lib.hid h.lt
  obtain ⟨-, c0, -⟩ := hA.core
  have b0 : W.cell? ⟨w.heap.size, 0, none⟩ = some (.pointer (some ⟨gd, 1 + n * 6, none⟩)) := blk_cell k0 0
  have HB := Lib.hid b0; have HK := Lib.hid (blk_lt k0); have XW := Lib.hid xW
  clear h hA AC k0 xW hrun hL
  go_enter_defers Tryz.func58, Tryz.ntmps58
  go_upto_region 2 with fail
  (try rw [hW])
  clear hW
  go_wp2_with fail
  refine PN.out.mono ?_
  rintro e w1 ⟨rfl, rfl⟩
  go_wp2_with fail
  refine ACC.out.mono ?_
  rintro e w1 ⟨rfl, hgo⟩
  have HG := Lib.hid hgo
  clear hgo
  go_wp2_with fail
  obtain ⟨C', xb', L', D', hl, h1, g1, n1, hb, hnb⟩ := HG.out.box HLT.out (Nat.le_refl _) HK.out HB.out
  refine leaves_cons (f := 100) (args := #[.pointer (some ⟨w.heap.size, 0, none⟩)]) (by simp) (by simp [go_sem]) ?_
  refine (ddefer w1 gd g C' xb' L' ks' dr _ D' n w.heap.size s' .returning h1 hn (by rw [upd1_self]; exact hs) hb hnb (by rw [upd1_self]; exact hl1) hl2).mono ?_
  rintro e u' w2 ⟨rfl, rfl, htk⟩
  exact ⟨_, results_none rfl _ _ _, rfl, DaeGo.took XW.out hl g1 n1 htk⟩
theorem DSet.not_new {w : World} {gd : Nat} {g : CoK} {C : Nat → Prop} {xb : Nat → Nat} {L : List AccE} {ks : KSt} {dr : Bool} {ls : Nat → LSt} {D : Nat → Nat → Prop} (h : DaeAt w gd g C xb L ks dr ls D) {q : Nat} (hq : w.heap.size ≤ q) : ¬ DSet gd C D q := fun e => by have := h.lt _ e; omega
set_option maxRecDepth 100000 in
set_option maxHeartbeats 4000000 in
theorem stepTo_next {g : CoK} {n : Nat} {a : DSt} {ks' : KSt} {l' : LSt} {s s' : CSt} {c : CCall} {rest : List CCall} (hn : n < 63) (hrun : isRun (a.ks.call n) = false) (hst : (a.ls n).st = 1) (hcn : (a.ls n).cn = some s) (ho : s.out = none) (hcl : s.closed = false) (hli : s.line = c :: rest) (hkl : c.key.length ≤ 255)
    (SC : StartTo g n a.ks (callP c)) (AC : AccTo g n ⟨startK a.ks n (callP c), upd1 a.ls n { a.ls n with cn := some { s with line := rest, out := some c } }, a.dr⟩ ⟨ks', upd1 a.ls n l', a.dr⟩) (hs : l'.cn = some s') (hl1 : l'.wr.length ≤ 1000000) (hl2 : s'.wr.length ≤ 1000000) :
    StepTo g n a ⟨ks', upd1 a.ls n (takeL l'), a.dr⟩ := by
  intro w gd C xb L D h hL
  obtain ⟨ks, ls, dr⟩ := a
  dsimp only at hrun hst hcn SC AC h ⊢
  have hmf := hmfC
  obtain ⟨W, hW⟩ : ∃ W, (w.alloc (.cells #[.pointer (some ⟨gd, 1 + n * 6, none⟩)] 165)) = W := ⟨_, rfl⟩
  have xW : Ext w W := by rw [← hW]; exact (Ext.refl w).alloc _
  have k0 : W.heap[w.heap.size]? = some (.cells #[.pointer (some ⟨gd, 1 + n * 6, none⟩)] 165 (0, 0)) := by rw [← hW]; exact blk_new w _
  have hA := h.ext xW
  have PN := Lib.hid (pend_run hA n hn)
  rw [hrun] at PN
  have HLT := Lib.hid h.lt
  obtain ⟨-, c0, -⟩ := hA.core
  have b0 : W.cell? ⟨w.heap.size, 0, none⟩ = some (.pointer (some ⟨gd, 1 + n * 6, none⟩)) := blk_cell k0 0
  obtain ⟨cs, t, v, hb, hv, hln, -⟩ := hA.lineA hn
  obtain ⟨-, -, -, -, -, -, -, v1, -⟩ := id hln
  rw [hst] at v1
  have c1 : W.cell? ⟨gd, 1 + n * 6 + 1, none⟩ = some (.int .i64 1) := (blk_cell hb _).trans (by have := hv 1 (by omega); rw [v1] at this; exact this)
  obtain ⟨base, gc, r, Lb, RO, cc0, hca, ngd, hLlt, -, -, hcg⟩ := hA.conn hn hcn
  have NX := Lib.hid (cnext_key W base gc r Lb RO s hca ho hcl c rest hli (by omega))
  have HB := Lib.hid b0; have HK := Lib.hid (blk_lt k0); have XW := Lib.hid xW; have HCG := Lib.hid hcg; have HNB := Lib.hid (fun e => DSet.not_new h (Nat.le_refl w.heap.size) e)
  have HLI := Lib.hid hli; have HAC := Lib.hid AC; have HSC := Lib.hid SC; have HCN := Lib.hid hcn; have HC0 := Lib.hid c0
  clear h hA AC SC k0 xW hrun hst hcn ho hcl hli hb hv hln v1 hca hcg ngd hLlt
  go_enter_defers Tryz.func58, Tryz.ntmps58
  go_upto_region 2 with fail
  (try rw [hW])
  clear hW
  go_wp2_with fail
  refine PN.out.mono ?_
  rintro e w1 ⟨rfl, rfl⟩
  go_wp2_with fail
  refine NX.out.mono ?_
  rintro e w1 ⟨cv, rfl, ⟨K, kc, rfl, hown⟩, hgo⟩
  obtain ⟨d1, d2, d3⟩ := HCG.out _ _ hgo
  obtain ⟨m, Hm⟩ : ∃ m, Hid (c.key.length = m) := ⟨_, rfl⟩
  rw [Hm.out] at hown hkl ⊢
  have hkc := own_cap hown
  have hb1 := d2.cell HB.out HNB.out
  obtain ⟨W1, hW1⟩ : ∃ W1, (w1.alloc (.cells #[.int .u8 (c.op : Int), .int .i64 (c.pol : Int), .slice K m kc, .int .i64 (c.num : Int)] 34)) = W1 := ⟨_, rfl⟩
  have xW1 : Ext w1 W1 := by rw [← hW1]; exact (Ext.refl w1).alloc _
  have K1 := Lib.hid (show W1.heap[w1.heap.size]? = some (.cells #[.int .u8 (c.op : Int), .int .i64 (c.pol : Int), .slice K m kc, .int .i64 (c.num : Int)] 34 (0, 0)) by rw [← hW1]; exact blk_new w1 _)
  have D1 := Lib.hid (d1.ext xW1); have G1 := Lib.hid (d2.ext xW1); have N1 := Lib.hid d3; have R1 := Lib.hid ((Rd.of_own hown).ext xW1); have XW1 := Lib.hid xW1
  have LT1 := Lib.hid d1.lt
  have HB1 := Lib.hid (ext_cell xW1 hb1)
  have e0 : W1.cell? ⟨w1.heap.size, 0, none⟩ = some (.int .u8 (c.op : Int)) := blk_cell K1.out 0
  have e1 : W1.cell? ⟨w1.heap.size, 1, none⟩ = some (.int .i64 (c.pol : Int)) := blk_cell K1.out 1
  have e2 : W1.cell? ⟨w1.heap.size, 2, none⟩ = some (.slice K m kc) := blk_cell K1.out 2
  have e3 : W1.cell? ⟨w1.heap.size, 3, none⟩ = some (.int .i64 (c.num : Int)) := blk_cell K1.out 3
  obtain ⟨hco, g0, -, hfin⟩ := D1.out.core
  have SCC := fun u (y : Ext W1 u) => HSC.out u (DO gd (upd1 D n (Grow (D n) W w1))) C xb L K m kc (hco.ext y) Hm.out hkc (R1.out.ext y)
  dsimp only [callP] at SCC
  have SCC := Lib.hid SCC
  have HFIN := Lib.hid hfin; have HCL := Lib.hid hco.lt
  have NCN := Lib.hid (show ¬ C w1.heap.size from fun e => by have := LT1.out _ (.inl e); omega)
  have NCG := Lib.hid (show ¬ C gd from fun e => hco.co _ e (.inl rfl))
  clear hown hgo d1 d2 d3 hb1 hco hfin b0 c0 c1 cc0 xW1 hkc
  go_upto_region 7 with fail
  (try rw [hW1])
  clear hW1
  go_region_held3 (fun w' => w'.cell? ⟨gd, 0, none⟩ = some (ptrV g.gx) ∧ w'.cell? ⟨w1.heap.size, 0, none⟩ = some (.int .u8 (c.op : Int)) ∧ w'.cell? ⟨w1.heap.size, 1, none⟩ = some (.int .i64 (c.pol : Int)) ∧ w'.cell? ⟨w1.heap.size, 2, none⟩ = some (.slice K m kc) ∧ w'.cell? ⟨w1.heap.size, 3, none⟩ = some (.int .i64 (c.num : Int)))
    (((try go_split_ands); exact ⟨(by first | (with_reducible exact drew_cell g0) | (with_reducible exact g0) | (with_reducible exact tg0) | (with_reducible exact drew_cell tg0) | (with_reducible assumption) | (with_reducible exact cell_past tg0 _) | (with_reducible exact drew_cell (cell_past g0 _))), (by first | (with_reducible exact drew_cell e0) | (with_reducible exact e0) | (with_reducible exact te0) | (with_reducible exact drew_cell te0) | (with_reducible assumption) | (with_reducible exact cell_past te0 _) | (with_reducible exact drew_cell (cell_past e0 _))), (by first | (with_reducible exact drew_cell e1) | (with_reducible exact e1) | (with_reducible exact te1) | (with_reducible exact drew_cell te1) | (with_reducible assumption) | (with_reducible exact cell_past te1 _) | (with_reducible exact drew_cell (cell_past e1 _))), (by first | (with_reducible exact drew_cell e2) | (with_reducible exact e2) | (with_reducible exact te2) | (with_reducible exact drew_cell te2) | (with_reducible assumption) | (with_reducible exact cell_past te2 _) | (with_reducible exact drew_cell (cell_past e2 _))), (by first | (with_reducible exact drew_cell e3) | (with_reducible exact e3) | (with_reducible exact te3) | (with_reducible exact drew_cell te3) | (with_reducible assumption) | (with_reducible exact cell_past te3 _) | (with_reducible exact drew_cell (cell_past e3 _)))⟩))
    ((go_at_call 41; (with_reducible refine (SCC.out _ (by first | (with_reducible exact Ext.refl _) | (with_reducible exact (Ext.refl _).drew))).mono ?_); rintro e w3 ⟨q, C', rfl, hm⟩; have HM := Lib.hid (hm.back (show Ext W1 _ from by first | (with_reducible exact Ext.refl _) | (with_reducible exact (Ext.refl _).drew))); obtain ⟨_, gg, _⟩ := hm; have tg0 := gg.cell (by first | (with_reducible exact g0) | (with_reducible exact drew_cell g0)) NCG.out; have te0 := gg.cell (by first | (with_reducible exact e0) | (with_reducible exact drew_cell e0)) NCN.out; have te1 := gg.cell (by first | (with_reducible exact e1) | (with_reducible exact drew_cell e1)) NCN.out; have te2 := gg.cell (by first | (with_reducible exact e2) | (with_reducible exact drew_cell e2)) NCN.out; have te3 := gg.cell (by first | (with_reducible exact e3) | (with_reducible exact drew_cell e3)) NCN.out; clear gg))
  all_goals
    obtain ⟨a1, a2, a3⟩ := HFIN.out _ _ _ _ _ HM.out
    have nbx : ¬ DSet gd C (upd1 D n (Grow (D n) W w1)) w.heap.size := fun e => (N1.out _ e).elim HNB.out (fun e => by have := HK.out; omega)
    have hb3 := a2.cell HB1.out nbx
    have ACC := Lib.hid (HAC.out _ _ _ _ _ _ a1 hL)
    have GG := Lib.hid (fun w4 (hg : DaeGo w3 gd g C' (upd1 D n (Grow (D n) W w1)) (L.length + 1) ks' dr (upd1 ls n l') w4) => DaeGo.trans (G1.out.trans a2 N1.out) (fun i hi => (a3 i hi).elim (N1.out i) (fun e => .inr (Nat.le_trans G1.out.size e))) hg)
    clear a1 a2 a3 nbx
    go_wp2_with fail
    refine ACC.out.mono ?_
    rintro e w4 ⟨rfl, hgo⟩
    have HG := Lib.hid (GG.out _ hgo)
    clear hgo
    go_wp2_with fail
    obtain ⟨C2, xb2, L2, D2, hl, h1, g1, n1, hb, hnb⟩ := HG.out.box HLT.out (Nat.le_refl _) HK.out HB.out
    refine leaves_cons (f := 100) (args := #[.pointer (some ⟨w.heap.size, 0, none⟩)]) (by simp) (by simp [go_sem]) ?_
    refine (ddefer _ gd g C2 xb2 L2 ks' dr _ D2 n w.heap.size s' .returning h1 hn (by rw [upd1_self]; exact hs) hb hnb (by rw [upd1_self]; exact hl1) hl2).mono ?_
    rintro e u' w5 ⟨rfl, rfl, htk⟩
    exact ⟨_, results_none rfl _ _ _, rfl, DaeGo.took XW.out hl g1 n1 htk⟩
end

section
open Go.RowKit

/-- a line was looked at -/
def lookL (l : LSt) (s : CSt) : LSt := if l.looked = true then l else { l with toks := s.led, looked := true }
def LookG (W : World) (gd : Nat) (g : CoK) (C : Nat → Prop) (xb : Nat → Nat) (L : List AccE) (ks : KSt) (dr : Bool) (ls : Nat → LSt) (D : Nat → Nat → Prop) (n : Nat) (l1 : LSt) (wd : World) : Prop :=
  ∃ D1, DaeAt wd gd g C xb L ks dr (upd1 ls n l1) D1 ∧ GB W wd (DSet gd C D) ∧ ∀ i, DSet gd C D1 i → DSet gd C D i ∨ W.heap.size ≤ i
theorem lookL_cn (l : LSt) (s : CSt) : (lookL l s).cn = l.cn := by unfold lookL; split <;> rfl
theorem lookL_wr (l : LSt) (s : CSt) : (lookL l s).wr = l.wr := by unfold lookL; split <;> rfl
theorem LnAt.setrel {w : World} {D : Nat → Prop} {v v' : Nat → Value} {l : LSt} (h : LnAt w D v l) {rel : Bool} (h0 : v' 0 = v 0) (h1 : v' 1 = v 1) (h2 : v' 2 = v 2) (h3 : v' 3 = .bool rel) (h4 : v' 4 = v 4) (h5 : v' 5 = v 5) : LnAt w D v' { l with rel := rel } := by
  obtain ⟨WA, TA, wc, tc, tk, Lb, T, k1, k2, -, k4, k5, h6, h7, h8, h9, h10, h11, h12, h13, h14⟩ := h
  exact ⟨WA, TA, wc, tc, tk, Lb, T, h1.trans k1, h2.trans k2, h3, h4.trans k4, h5.trans k5, h6, h7, h8, h9, h10, h11, h12, h13, by rw [h0]; exact h14⟩
/-- a daemon that went on, whose line's own cells are written next -/
theorem DaeGo.put {w w1 w2 : World} {gd N : Nat} {g : CoK} {C C1 : Nat → Prop} {D D1 D2 : Nat → Nat → Prop} {ks : KSt} {dr : Bool} {ls2 : Nat → LSt} {xb : Nat → Nat} {L : List AccE} (hN : L.length ≤ N) (g1 : GB w w1 (DSet gd C D)) (n1 : ∀ i, DSet gd C1 D1 i → DSet gd C D i ∨ w.heap.size ≤ i)
    (h : DaeAt w2 gd g C1 xb L ks dr ls2 D2) (g2 : GB w1 w2 (DSet gd C1 D1)) (n2 : ∀ i, DSet gd C1 D2 i → DSet gd C1 D1 i ∨ w1.heap.size ≤ i) : DaeGo w gd g C D N ks dr ls2 w2 := by
  refine ⟨C1, xb, L, D2, hN, h, g1.trans g2 n1, fun i hi => ?_⟩
  rcases n2 i hi with e | e
  · exact n1 i e
  · exact .inr (Nat.le_trans g1.size e)
theorem TokNew.at_new {w : World} {base : Nat} {A : Option Addr} {n c : Nat} {l : List CTok} {ks : List KRef} (h : TokNew w base A n c l ks) : l.length ≤ c ∧ (∀ a, A = some a → base ≤ a.block ∧ a.block < w.heap.size) ∧ ∀ k ∈ ks, ∀ a, k.1 = some a → base ≤ a.block ∧ a.block < w.heap.size := by
  refine ⟨by rw [h.2.1]; exact own_cap h.2.2.1, fun a ha => ?_, fun k hk a ha => ?_⟩
  · obtain ⟨a1, a2, -⟩ := own_at_ge h.2.2.1 a ha
    exact ⟨a1, a2⟩
  · obtain ⟨i, hi⟩ := List.getElem?_of_mem hk
    have hl := (List.getElem?_eq_some_iff.1 hi).1
    have hx : l[i]? = some (l[i]'(by rw [← h.1]; exact hl)) := List.getElem?_eq_getElem _
    obtain ⟨a1, a2, -⟩ := own_at_ge (h.2.2.2 i k _ hi hx).1 a ha
    exact ⟨a1, a2⟩
theorem look_mk {W w3 : World} {gd : Nat} {g : CoK} {C : Nat → Prop} {xb : Nat → Nat} {L : List AccE} {ks : KSt} {dr : Bool} {ls : Nat → LSt} {D : Nat → Nat → Prop} {n m tc : Nat} {cs : Array Value} {t : TypeId} {v : Nat → Value} {s : CSt} {A : Option Addr} {tk : List KRef} {base : Nat} (_hA : DaeAt W gd g C xb L ks dr ls D) (_hn : n < 63)
    (hbk : W.heap[gd]? = some (.cells cs t (0, 0))) (hv : ∀ k, k < 6 → cs[1 + n * 6 + k]? = some (v k)) (hln : LnAt W (D n) v (ls n)) (hD : ∀ i, D n i → i ≠ gd ∧ i < W.heap.size)
    (hfin : ∀ w' cs' D2 v2 l2, GB W w' (fun i => i = gd ∨ D n i) → w'.heap[gd]? = some (.cells cs' t (0, 0)) → (∀ k, k < 6 → cs'[1 + n * 6 + k]? = some (v2 k)) → (∀ j, j < 1 + n * 6 ∨ 7 + n * 6 ≤ j → cs'[j]? = cs[j]?) →
        LnAt w' D2 v2 l2 → (∀ i, D2 i → (D n i ∨ W.heap.size ≤ i) ∧ i < w'.heap.size) →
        DaeAt w' gd g C xb L ks dr (upd1 ls n l2) (upd1 D n D2) ∧ GB W w' (DSet gd C D) ∧ ∀ i, DSet gd C (upd1 D n D2) i → DSet gd C D i ∨ W.heap.size ≤ i)
    (hlk : (ls n).looked = false) (hx : Ext W w3) (hT : TokNew w3 base A s.led.length tc s.led tk) (hm : s.led.length = m) (hbase : W.heap.size = base) :
    LookG W gd g C xb L ks dr ls D n (lookL (ls n) s) ((w3.setCell ⟨gd, 1 + n * 6 + 4, none⟩ (.slice A m tc)).setCell ⟨gd, 1 + n * 6 + 5, none⟩ (.bool true)) := by
  subst hm hbase
  obtain ⟨t1, t2, t3⟩ := hT.at_new
  obtain ⟨b1, v1, j1⟩ := line_set (blk_ext hbk hx) (n := n) (k0 := 4) (v := v) (by omega) hv (.slice A s.led.length tc)
  obtain ⟨b2, v2, j2⟩ := line_set b1 (n := n) (k0 := 5) (by omega) v1 (.bool true)
  have g2 : GB w3 ((w3.setCell ⟨gd, 1 + n * 6 + 4, none⟩ (.slice A s.led.length tc)).setCell ⟨gd, 1 + n * 6 + 5, none⟩ (.bool true)) (· = gd) := ((GB.refl w3 (· = gd)).set gd _ _ (.inl rfl)).set gd _ _ (.inl rfl)
  have e9 : lookL (ls n) s = { ls n with toks := s.led, looked := true } := if_neg (by rw [hlk]; decide)
  rw [e9]
  have hgd := blk_lt hbk
  have hl3 := (hln.toks (fun i hi => (hD i hi).2) hx hT.rd t1 t2 t3 (v' := upd1 (upd1 v 4 (.slice A s.led.length tc)) 5 (.bool true)) (looked := true) (by rw [upd1_other _ _ (by omega), upd1_other _ _ (by omega)]) (by rw [upd1_other _ _ (by omega), upd1_other _ _ (by omega)]) (by rw [upd1_other _ _ (by omega), upd1_other _ _ (by omega)]) (by rw [upd1_other _ _ (by omega), upd1_other _ _ (by omega)]) (by rw [upd1_other _ _ (by omega), upd1_self]) (by rw [upd1_self])).gb g2 (fun i hi e => by
    have e : i = gd := e
    rcases hi with hi | hi
    · exact (hD i hi).1 e
    · omega)
  obtain ⟨a1, a2, a3⟩ := hfin _ _ _ _ _ ((GB.of_ext (fun i => i = gd ∨ D n i) hx).trans g2 (fun i e => .inl (.inl e))) b2 v2 (fun j hj => (j2 j hj).trans (j1 j hj)) hl3 (fun i hi => by
    rcases hi with hi | hi
    · refine ⟨.inl hi, ?_⟩
      have := (hD i hi).2; have := hx.size; simp; omega
    · exact ⟨.inr hi.1, by simpa using hi.2⟩)
  exact ⟨_, a1, a2, a3⟩
set_option maxRecDepth 100000 in
set_option maxHeartbeats 4000000 in
theorem stepTo_hung {g : CoK} {n : Nat} {a b : DSt} {s : CSt} (hn : n < 63) (hrun : isRun (a.ks.call n) = false) (hst : (a.ls n).st = 2) (hcn : (a.ls n).cn = some s) (hled : s.led.length ≤ 100000) (hkl : ∀ t ∈ s.led, t.key.length ≤ 5000) (hlt : (lookL (a.ls n) s).toks.length ≤ 100000)
    (hb : ((lookL (a.ls n) s).toks = [] ∧ (a.ls n).wr.length ≤ 1000000 ∧ s.wr.length ≤ 1000000 ∧ b = ⟨a.ks, upd1 a.ls n (takeL { lookL (a.ls n) s with st := 0 }), a.dr⟩) ∨
      ∃ t ts l' s' ks', (lookL (a.ls n) s).toks = t :: ts ∧ b = ⟨ks', upd1 a.ls n (takeL l'), a.dr⟩ ∧ 0 ≤ t.pol ∧ t.key.length ≤ 255 ∧ StartTo g n a.ks (tokP t) ∧ AccTo g n ⟨startK a.ks n (tokP t), upd1 a.ls n { lookL (a.ls n) s with rel := true }, a.dr⟩ ⟨ks', upd1 a.ls n l', a.dr⟩ ∧ l'.cn = some s' ∧ l'.wr.length ≤ 1000000 ∧ s'.wr.length ≤ 1000000) :
    StepTo g n a b := by
  intro w gd C xb L D h hL
  obtain ⟨ks, ls, dr⟩ := a
  dsimp only at hrun hst hcn hb hlt h ⊢
  have hmf := hmfC
  obtain ⟨W, hW⟩ : ∃ W, (w.alloc (.cells #[.pointer (some ⟨gd, 1 + n * 6, none⟩)] 165)) = W := ⟨_, rfl⟩
  have xW : Ext w W := by rw [← hW]; exact (Ext.refl w).alloc _
  have k0 : W.heap[w.heap.size]? = some (.cells #[.pointer (some ⟨gd, 1 + n * 6, none⟩)] 165 (0, 0)) := by rw [← hW]; exact blk_new w _
  have hA := h.ext xW
  have PN := Lib.hid (pend_run hA n hn)
  rw [hrun] at PN
  have HLT := Lib.hid h.lt
  obtain ⟨-, c0, -⟩ := hA.core
  have b0 : W.cell? ⟨w.heap.size, 0, none⟩ = some (.pointer (some ⟨gd, 1 + n * 6, none⟩)) := blk_cell k0 0
  obtain ⟨cs, t, v, hbk, hv, hln, hD, -, -, -, hfin⟩ := hA.lineA hn
  obtain ⟨-, -, -, -, -, -, -, v1, -, -, -, v5, -⟩ := id hln
  rw [hst] at v1
  have c1 : W.cell? ⟨gd, 1 + n * 6 + 1, none⟩ = some (.int .i64 2) := (blk_cell hbk _).trans (by have := hv 1 (by omega); rw [v1] at this; exact this)
  obtain ⟨lk, Hlk⟩ : ∃ q, Hid ((ls n).looked = q) := ⟨_, rfl⟩
  rw [Hlk.out] at v5
  have c5 : W.cell? ⟨gd, 1 + n * 6 + 5, none⟩ = some (.bool lk) := (blk_cell hbk _).trans (by rw [← v5]; exact hv 5 (by omega))
  obtain ⟨base, gc, r, Lb, RO, cc0, hca, ngd, hLlt, -, -, hcg⟩ := hA.conn hn hcn
  have LE := Lib.hid (fun u (y : Ext W u) => cledger_any u base gc r Lb RO s (hca.ext y) hled hkl)
  have HA := Lib.hid hA; have HBK := Lib.hid hbk; have HV := Lib.hid hv; have HLN := Lib.hid hln; have HD := Lib.hid hD; have HFN := Lib.hid hfin
  obtain ⟨m, Hm⟩ : ∃ m, Hid (s.led.length = m) := ⟨_, rfl⟩
  unfold LedR at LE
  rw [Hm.out] at LE hled
  have HB := Lib.hid b0; have HK := Lib.hid (blk_lt k0); have XW := Lib.hid xW; have HNB := Lib.hid (fun e => DSet.not_new h (Nat.le_refl w.heap.size) e)
  have HCN := Lib.hid hcn; have Hb := Lib.hid hb
  clear h hA k0 xW hrun hst hcn hb hln v1 v5 hca hcg ngd hLlt hbk hv hD hfin
  go_enter_defers Tryz.func58, Tryz.ntmps58
  go_upto_region 2 with fail
  (try rw [hW])
  clear hW
  go_wp2_with fail
  refine PN.out.mono ?_
  rintro e w1 ⟨rfl, rfl⟩
  go_upto_if 72 with fail
  go_cut [] from 73 to 84 (fun wd => LookG W gd g C xb L ks dr ls D n (lookL (ls n) s) wd)
  case first =>
    cases lk with
    | true =>
      go_wp2_with fail
      go_meet
      have e9 : lookL (ls n) s = ls n := if_pos Hlk.out
      rw [e9]
      exact ⟨D, by rw [upd1_eq]; exact HA.out, GB.refl _ _, fun i hi => .inl hi⟩
    | false =>
      go_upto_region 14 with fail
      have c4 : W.cell? ⟨gd, 1 + n * 6 + 4, none⟩ = some (v 4) := (blk_cell HBK.out _).trans (HV.out 4 (by omega))
      have z4 := blk_frozen HBK.out (1 + n * 6 + 4); have z5 := blk_frozen HBK.out (1 + n * 6 + 5)
      have NB := Lib.hid (show ¬ w.heap.size = gd from fun e => HNB.out (.inr (.inl e)))
      have N4 := Lib.hid (show ¬ 1 + n * 6 = 1 + n * 6 + 4 by omega); have N5 := Lib.hid (show ¬ 1 + n * 6 = 1 + n * 6 + 5 by omega)
      have N45 := Lib.hid (show ¬ 1 + n * 6 + 4 = 1 + n * 6 + 5 by omega); have N54 := Lib.hid (show ¬ 1 + n * 6 + 5 = 1 + n * 6 + 4 by omega)
      go_region_held3 (fun w' => w'.cell? ⟨w.heap.size, 0, none⟩ = some (.pointer (some ⟨gd, 1 + n * 6, none⟩)) ∧ w'.cell? ⟨gd, 1 + n * 6, none⟩ = some (ptrV gc))
        (((try go_split_ands); refine ⟨?_, ?_⟩ <;> (repeat (first | (with_reducible exact b0) | (with_reducible exact cc0) | (with_reducible exact tb0) | (with_reducible exact tcc0) | (with_reducible refine drew_cell ?_) | (with_reducible refine cell_other ?_ NB.out) | (with_reducible refine cell_off ?_ N4.out) | (with_reducible refine cell_off ?_ N5.out)))))
        ((go_at_call 71; (with_reducible refine (LE.out _ (by first | (with_reducible exact Ext.refl _) | (with_reducible exact (Ext.refl _).drew))).mono ?_); rintro e w3 ⟨A, tc, tk, rfl, hT, hx⟩; have HT := Lib.hid hT; have HX := Lib.hid ((show Ext W _ from by first | (with_reducible exact Ext.refl _) | (with_reducible exact (Ext.refl _).drew)).trans hx); have tb0 := ext_cell HX.out b0; have tcc0 := ext_cell HX.out cc0; have tc4 := ext_cell HX.out c4; have tc5 := ext_cell HX.out c5; have tz4 := frz_ext2 HX.out c4 z4; have tz5 := frz_ext2 HX.out c5 z5; have uc5 := cell_off (u := .slice A m tc) tc5 N54.out; have uc4 := cell_off (u := .bool true) tc4 N45.out; clear hT hx))
      all_goals
        go_wp2_with fail
        go_meet
        exact look_mk HA.out hn HBK.out HV.out HLN.out HD.out HFN.out Hlk.out HX.out (by rw [Hm.out]; exact HT.out) Hm.out rfl
  case rest =>
    obtain ⟨D1, h1, g1, n1⟩ := hcut
    have nb1 : ¬ DSet gd C D1 w.heap.size := fun e => (n1 _ e).elim HNB.out (fun e => by have := HK.out; omega)
    have hb1 := g1.cell HB.out HNB.out
    obtain ⟨cs1, t1, u, hbk1, hu, hln1, hD1, -, -, -, hfin1⟩ := h1.lineA hn
    rw [upd1_self] at hln1
    simp only [upd1_upd1] at hfin1
    rcases Hb.out with ⟨hts, hl1, hl2, rfl⟩ | ⟨t, ts, l', s', ks', hts, rfl, hpol, hkl2, SC, AC, hs', hl1, hl2⟩
    · obtain ⟨-, TA, -, tc, -, -, -, u1, -, -, u4, -⟩ := id hln1
      rw [hts] at u4
      have d4 : wc.cell? ⟨gd, 1 + n * 6 + 4, none⟩ = some (.slice TA 0 tc) := (blk_cell hbk1 _).trans (by have := hu 4 (by omega); rw [u4] at this; exact this)
      have d1 : wc.cell? ⟨gd, 1 + n * 6 + 1, none⟩ = some (u 1) := (blk_cell hbk1 _).trans (hu 1 (by omega))
      have y1 := blk_frozen hbk1 (1 + n * 6 + 1)
      have H1 := Lib.hid h1; have G1 := Lib.hid g1; have N1 := Lib.hid n1; have NB1 := Lib.hid nb1; have HBK1 := Lib.hid hbk1; have HU := Lib.hid hu; have HLN1 := Lib.hid hln1; have HD1 := Lib.hid hD1; have HF1 := Lib.hid hfin1; have HB1 := Lib.hid hb1; have HTS := Lib.hid hts
      clear h1 g1 n1 nb1 hbk1 hu hln1 hD1 hfin1 hts u1 u4
      go_wp2_with fail
      obtain ⟨q1, q2, q3⟩ := line_set HBK1.out (n := n) (k0 := 1) (v := u) (by omega) HU.out (.int .i64 0)
      have gs : GB wc (wc.setCell ⟨gd, 1 + n * 6 + 1, none⟩ (.int .i64 0)) (· = gd) := (GB.refl wc (· = gd)).set gd _ _ (.inl rfl)
      have hl9 := (HLN1.out.gb gs (fun i hi e => (HD1.out i hi).1 e)).state (v' := upd1 u 1 (.int .i64 0)) (st := 0) (upd1_other _ _ (by omega)) (upd1_self _ _ _) (upd1_other _ _ (by omega)) (upd1_other _ _ (by omega)) (upd1_other _ _ (by omega)) (upd1_other _ _ (by omega))
      obtain ⟨p1, p2, p3⟩ := HF1.out _ _ _ _ _ (gs.more (fun i _ e => .inl e)) q1 q2 q3 hl9 (fun i hi => ⟨.inl hi, by simpa using (HD1.out i hi).2⟩)
      have HG : DaeGo W gd g C D (L.length + 1) ks dr (upd1 ls n { lookL (ls n) s with st := 0 }) _ := DaeGo.put (Nat.le_succ _) G1.out N1.out p1 p2 p3
      obtain ⟨C2, xb2, L2, D2, hl, h1, g1, n1, hb, hnb⟩ := HG.box HLT.out (Nat.le_refl _) HK.out HB.out
      refine leaves_cons (f := 100) (args := #[.pointer (some ⟨w.heap.size, 0, none⟩)]) (by simp) (by simp [go_sem]) ?_
      refine (ddefer _ gd g C2 xb2 L2 ks dr _ D2 n w.heap.size s .returning h1 hn (by rw [upd1_self]; exact (lookL_cn _ _).trans HCN.out) hb hnb (by rw [upd1_self]; show (lookL (ls n) s).wr.length ≤ _; rw [lookL_wr]; exact hl1) hl2).mono ?_
      rintro e u' w5 ⟨rfl, rfl, htk⟩
      exact ⟨_, results_none rfl _ _ _, rfl, DaeGo.took XW.out hl g1 n1 htk⟩
    · obtain ⟨-, TA, -, tc, tk, Lb1, T, u1, -, u3, u4, -, -, -, hcap, htk, -, hkin, hTD, -⟩ := id hln1
      rw [hts] at u4 htk hcap
      obtain ⟨bt, off, K, kc, rfl, hkmem, x0, x1, x2, hkc, hrk⟩ := htk.at_ (i := 0) (t := t) rfl
      have NK := Lib.hid (show ∀ a, K = some a → D1 n a.block from fun a ha => (hTD _ (hkin _ (List.mem_of_getElem? hkmem) a ha)).1)
      obtain ⟨k1, Hk1⟩ : ∃ k1, Hid ((t :: ts).length = k1) := ⟨_, rfl⟩
      have hk1 : 1 ≤ k1 := by rw [← Hk1.out]; simp
      rw [Hk1.out] at u4 hcap
      obtain ⟨kn, Hkn⟩ : ∃ kn, Hid (t.key.length = kn) := ⟨_, rfl⟩
      rw [Hkn.out] at x1 hkc hkl2
      simp only [Nat.zero_mul, Nat.add_zero] at x0 x1 x2
      obtain ⟨pn, Hpn⟩ : ∃ pn : Nat, Hid (t.pol.toNat = pn) := ⟨_, rfl⟩
      have hpe : t.pol = (pn : Int) := by have := Hpn.out; omega
      obtain ⟨ser, Hser⟩ : ∃ z, Hid (t.ser = z) := ⟨_, rfl⟩
      rw [hpe] at x0
      rw [Hser.out] at x2
      have d4 : wc.cell? ⟨gd, 1 + n * 6 + 4, none⟩ = some (.slice (some ⟨bt, off, none⟩) k1 tc) := (blk_cell hbk1 _).trans (by have := hu 4 (by omega); rw [u4] at this; exact this)
      have d3 : wc.cell? ⟨gd, 1 + n * 6 + 3, none⟩ = some (u 3) := (blk_cell hbk1 _).trans (hu 3 (by omega))
      have y3 := blk_frozen hbk1 (1 + n * 6 + 3)
      have hix : (0 : Int) ≤ 0 ∧ (0 : Int) < (k1 : Int) := ⟨by omega, by omega⟩
      have H1 := Lib.hid h1; have G1 := Lib.hid g1; have N1 := Lib.hid n1; have NB1 := Lib.hid nb1; have HBK1 := Lib.hid hbk1; have HU := Lib.hid hu; have HLN1 := Lib.hid hln1; have HD1 := Lib.hid hD1; have HF1 := Lib.hid hfin1; have HB1 := Lib.hid hb1; have HTS := Lib.hid hts; have HRK := Lib.hid hrk; have HSC := Lib.hid SC; have HAC := Lib.hid AC
      clear h1 g1 n1 nb1 hbk1 hu hln1 hD1 hfin1 hts u1 u3 u4 hpe hrk htk hcap SC AC hkin hTD hkmem
      go_upto_region 18 with fail
      obtain ⟨W2, hW2⟩ : ∃ W2, (wc.alloc (.cells #[.int .i64 (pn : Int), .slice K kn kc, .int .i64 ser] 120)) = W2 := ⟨_, rfl⟩
      have xW2 : Ext wc W2 := by rw [← hW2]; exact (Ext.refl wc).alloc _
      have K2 := Lib.hid (show W2.heap[wc.heap.size]? = some (.cells #[.int .i64 (pn : Int), .slice K kn kc, .int .i64 ser] 120 (0, 0)) by rw [← hW2]; exact blk_new wc _)
      (try rw [hW2])
      clear hW2
      have hb2 := ext_cell xW2 HB1.out; have d3' := ext_cell xW2 d3; have y3' := frz_ext2 xW2 d3 y3
      have XW2 := Lib.hid xW2
      have ngd : gd < wc.heap.size := blk_lt HBK1.out
      clear d3 y3 d4 x0 x1 x2 xW2 b0 c0 c1 c5 cc0
      go_upto_region 19 with fail
      obtain ⟨X, hX⟩ : ∃ X, W2.setCell ⟨gd, 1 + n * 6 + 3, none⟩ (.bool true) = X := ⟨_, rfl⟩
      have gs : GB W2 X (· = gd) := by rw [← hX]; exact (GB.refl W2 (· = gd)).set gd _ _ (.inl rfl)
      obtain ⟨q1, q2, q3⟩ := line_set (blk_ext HBK1.out XW2.out) (n := n) (k0 := 3) (v := u) (by omega) HU.out (.bool true)
      rw [hX] at q1
      have gcx : GB wc X (fun i => i = gd ∨ D1 n i) := GB.back XW2.out (gs.more (fun i _ e => .inl e))
      have hl9 := ((HLN1.out.ext XW2.out).gb gs (fun i hi e => (HD1.out i hi).1 e)).setrel (v' := upd1 u 3 (.bool true)) (rel := true) (upd1_other _ _ (by omega)) (upd1_other _ _ (by omega)) (upd1_other _ _ (by omega)) (upd1_self _ _ _) (upd1_other _ _ (by omega)) (upd1_other _ _ (by omega))
      obtain ⟨p1, p2, p3⟩ := HF1.out _ _ _ _ _ gcx q1 q2 q3 hl9 (fun i hi => ⟨.inl hi, Nat.lt_of_lt_of_le (HD1.out i hi).2 gcx.size⟩)
      rw [upd1_eq] at p1 p3
      have nkb : ¬ wc.heap.size = gd := by omega
      have k3 := gs.blk K2.out nkb
      have e0 : X.cell? ⟨wc.heap.size, 0, none⟩ = some (.int .i64 (pn : Int)) := blk_cell k3 0
      have e1 : X.cell? ⟨wc.heap.size, 1, none⟩ = some (.slice K kn kc) := blk_cell k3 1
      have e2 : X.cell? ⟨wc.heap.size, 2, none⟩ = some (.int .i64 ser) := blk_cell k3 2
      have nbx : ¬ w.heap.size = gd := fun e => HNB.out (.inr (.inl e))
      have HBX := Lib.hid (gs.cell hb2 nbx)
      obtain ⟨hco, g0, -, hfin⟩ := p1.core
      have RK := Lib.hid (gs.rd (HRK.out.ext XW2.out) (fun a ha e => (HD1.out _ (NK.out a ha)).1 e))
      have SCC := fun u (y : Ext X u) => HSC.out u (DO gd D1) C xb L K kn kc (hco.ext y) Hkn.out hkc (RK.out.ext y)
      dsimp only [tokP] at SCC
      rw [Hpn.out, Hser.out, show ((3 : Nat) : Int) = 3 from rfl] at SCC
      have SCC := Lib.hid SCC
      have HFIN := Lib.hid hfin; have HCL := Lib.hid hco.lt
      have LT1 := Lib.hid H1.out.lt
      have NCN := Lib.hid (show ¬ C wc.heap.size from fun e => by have := LT1.out _ (.inl e); omega)
      have NCG := Lib.hid (show ¬ C gd from fun e => hco.co _ e (.inl rfl))
      have P2 := Lib.hid p2; have P3 := Lib.hid p3; have HX := Lib.hid hX
      clear p1 p2 p3 hco hfin hl9 q1 q2 q3 gcx gs k3 nkb nbx hb2 d3' y3' hX
      (try rw [HX.out])
      go_region_held3 (fun w' => w'.cell? ⟨gd, 0, none⟩ = some (ptrV g.gx) ∧ w'.cell? ⟨wc.heap.size, 0, none⟩ = some (.int .i64 (pn : Int)) ∧ w'.cell? ⟨wc.heap.size, 1, none⟩ = some (.slice K kn kc) ∧ w'.cell? ⟨wc.heap.size, 2, none⟩ = some (.int .i64 ser))
        (((try go_split_ands); exact ⟨(by first | (with_reducible exact drew_cell g0) | (with_reducible exact g0) | (with_reducible exact tg0) | (with_reducible exact drew_cell tg0) | (with_reducible assumption) | (with_reducible exact cell_past tg0 _) | (with_reducible exact drew_cell (cell_past g0 _))), (by first | (with_reducible exact drew_cell e0) | (with_reducible exact e0) | (with_reducible exact te0) | (with_reducible exact drew_cell te0) | (with_reducible assumption) | (with_reducible exact cell_past te0 _) | (with_reducible exact drew_cell (cell_past e0 _))), (by first | (with_reducible exact drew_cell e1) | (with_reducible exact e1) | (with_reducible exact te1) | (with_reducible exact drew_cell te1) | (with_reducible assumption) | (with_reducible exact cell_past te1 _) | (with_reducible exact drew_cell (cell_past e1 _))), (by first | (with_reducible exact drew_cell e2) | (with_reducible exact e2) | (with_reducible exact te2) | (with_reducible exact drew_cell te2) | (with_reducible assumption) | (with_reducible exact cell_past te2 _) | (with_reducible exact drew_cell (cell_past e2 _)))⟩))
        ((go_at_call 41; (with_reducible refine (SCC.out _ (by first | (with_reducible exact Ext.refl _) | (with_reducible exact (Ext.refl _).drew))).mono ?_); rintro e w3 ⟨q, C', rfl, hm⟩; have HM := Lib.hid (hm.back (show Ext X _ from by first | (with_reducible exact Ext.refl _) | (with_reducible exact (Ext.refl _).drew))); obtain ⟨_, gg, _⟩ := hm; have tg0 := gg.cell (by first | (with_reducible exact g0) | (with_reducible exact drew_cell g0)) NCG.out; have te0 := gg.cell (by first | (with_reducible exact e0) | (with_reducible exact drew_cell e0)) NCN.out; have te1 := gg.cell (by first | (with_reducible exact e1) | (with_reducible exact drew_cell e1)) NCN.out; have te2 := gg.cell (by first | (with_reducible exact e2) | (with_reducible exact drew_cell e2)) NCN.out; clear gg))
      all_goals
        obtain ⟨a1, a2, a3⟩ := HFIN.out _ _ _ _ _ HM.out
        rw [show (⟨3, pn, t.key, ser⟩ : PCall) = tokP t by unfold tokP; rw [Hpn.out, Hser.out]] at a1
        have hb3 := a2.cell HBX.out NB1.out
        have ACC := Lib.hid (HAC.out _ _ _ _ _ _ a1 hL)
        have GG := Lib.hid (fun w4 (hg : DaeGo w3 gd g C' D1 (L.length + 1) ks' dr (upd1 ls n l') w4) => DaeGo.trans ((G1.out.trans P2.out N1.out).trans a2 (fun i hi => (P3.out i hi).elim (N1.out i) (fun e => .inr (Nat.le_trans G1.out.size e)))) (fun i hi => (a3 i hi).elim (fun e => (P3.out i e).elim (N1.out i) (fun e => .inr (Nat.le_trans G1.out.size e))) (fun e => .inr (Nat.le_trans (Nat.le_trans G1.out.size P2.out.size) e))) hg)
        clear a1 a2 a3
        go_wp2_with fail
        refine ACC.out.mono ?_
        rintro e w4 ⟨rfl, hgo⟩
        have HG := Lib.hid (GG.out _ hgo)
        clear hgo
        go_wp2_with fail
        obtain ⟨C2, xb2, L2, D2, hl, h1, g1, n1, hb, hnb⟩ := HG.out.box HLT.out (Nat.le_refl _) HK.out HB.out
        refine leaves_cons (f := 100) (args := #[.pointer (some ⟨w.heap.size, 0, none⟩)]) (by simp) (by simp [go_sem]) ?_
        refine (ddefer _ gd g C2 xb2 L2 ks' dr _ D2 n w.heap.size s' .returning h1 hn (by rw [upd1_self]; exact hs') hb hnb (by rw [upd1_self]; exact hl1) hl2).mono ?_
        rintro e u' w5 ⟨rfl, rfl, htk⟩
        exact ⟨_, results_none rfl _ _ _, rfl, DaeGo.took XW.out hl g1 n1 htk⟩
end

section
open Go.RowKit

/-- Do of an event without data -/
def DoTo (g : CoK) (kind n : Nat) (N : Int) (err : Nat) (a b : DSt) : Prop := ∀ (w : World) (gd : Nat) (C : Nat → Prop) (xb : Nat → Nat) (L : List AccE) (D : Nat → Nat → Prop), DaeAt w gd g C xb L a.ks a.dr a.ls D → L.length ≤ 100000 →
  Calls Tryz.prog 19 #[ptrV gd, .agg #[.int .u8 (kind : Int), .int .i64 (n : Int), .slice none 0 0, .int .i64 N]] w fun e w' => e = .returned (.int .i64 (err : Int)) ∧ DaeGo w gd g C D (L.length + 1) b.ks b.dr b.ls w'
set_option maxRecDepth 100000 in
set_option maxHeartbeats 2000000 in
theorem do_step {g : CoK} {n : Nat} {a b : DSt} (hn : n < 63) (hst : (a.ls n).st ≠ 0) (SP : StepTo g n a b) : DoTo g 3 n 0 0 a b := by
  intro w gd C xb L D h hL
  obtain ⟨W, hW⟩ : ∃ W, (w.alloc (.cells #[.int .u8 3, .int .i64 (n : Int), .slice none 0 0, .int .i64 0] 90)) = W := ⟨_, rfl⟩
  have xW : Ext w W := by rw [← hW]; exact (Ext.refl w).alloc _
  have k0 := Lib.hid (show W.heap[w.heap.size]? = some (.cells #[.int .u8 3, .int .i64 (n : Int), .slice none 0 0, .int .i64 0] 90 (0, 0)) by rw [← hW]; exact blk_new w _)
  have hA := h.ext xW
  have IS := Lib.hid (dis_ok n W hn)
  have LN := Lib.hid (dline_on W gd g C xb L a.ks a.dr a.ls D n hA hn hst)
  have SPP := Lib.hid (SP W gd C xb L D hA hL)
  have e0 : W.cell? ⟨w.heap.size, 0, none⟩ = some (.int .u8 3) := blk_cell k0.out 0
  have e1 : W.cell? ⟨w.heap.size, 1, none⟩ = some (.int .i64 (n : Int)) := blk_cell k0.out 1
  have HLT := Lib.hid h.lt; have XW := Lib.hid xW
  have NE := Lib.hid (fun e => DSet.not_new h (Nat.le_refl w.heap.size) e)
  clear h hA SP hL xW hst
  go_enter Tryz.func19, Tryz.ntmps19
  go_upto_region 1 with fail
  (try rw [hW])
  clear hW
  go_wp2_with fail
  refine IS.out.mono ?_
  rintro e w1 ⟨rfl, rfl⟩
  go_wp2_with fail
  refine LN.out.mono ?_
  rintro e w1 ⟨rfl, rfl⟩
  go_wp2_with fail
  refine SPP.out.mono ?_
  rintro e w1 ⟨rfl, hgo⟩
  have HG := Lib.hid hgo
  clear hgo
  go_wp2_with fail
  go_ret
  exact ⟨rfl, DaeGo.back XW.out HG.out⟩
set_option maxRecDepth 100000 in
set_option maxHeartbeats 2000000 in
theorem do_hang {g : CoK} {n : Nat} {a : DSt} {s : CSt} (hn : n < 63) (hst : (a.ls n).st = 1) (hs : (a.ls n).cn = some s) (hl1 : (a.ls n).wr.length ≤ 1000000) (hl2 : s.wr.length ≤ 1000000) (hl3 : s.led.length ≤ 100000) (hkl : ∀ t ∈ s.led, t.key.length ≤ 5000) : DoTo g 4 n 0 0 a { a with ls := upd1 a.ls n (hangL (a.ls n)) } := by
  intro w gd C xb L D h hL
  obtain ⟨W, hW⟩ : ∃ W, (w.alloc (.cells #[.int .u8 4, .int .i64 (n : Int), .slice none 0 0, .int .i64 0] 90)) = W := ⟨_, rfl⟩
  have xW : Ext w W := by rw [← hW]; exact (Ext.refl w).alloc _
  have k0 := Lib.hid (show W.heap[w.heap.size]? = some (.cells #[.int .u8 4, .int .i64 (n : Int), .slice none 0 0, .int .i64 0] 90 (0, 0)) by rw [← hW]; exact blk_new w _)
  have hA := h.ext xW
  have IS := Lib.hid (dis_ok n W hn)
  have LN := Lib.hid (dline_on W gd g C xb L a.ks a.dr a.ls D n hA hn (by omega))
  have SPP := Lib.hid (dhang W gd g C xb L a.ks a.dr a.ls D n s hA hn hs hl1 hl2 hl3 hkl)
  obtain ⟨cs, t, v, hb, hv, hln, -⟩ := hA.lineA hn
  obtain ⟨-, -, -, -, -, -, -, v1, -⟩ := hln
  rw [hst] at v1
  have c1 : W.cell? ⟨gd, 1 + n * 6 + 1, none⟩ = some (.int .i64 1) := (blk_cell hb _).trans (by have := hv 1 (by omega); rw [v1] at this; exact this)
  have e0 : W.cell? ⟨w.heap.size, 0, none⟩ = some (.int .u8 4) := blk_cell k0.out 0
  have e1 : W.cell? ⟨w.heap.size, 1, none⟩ = some (.int .i64 (n : Int)) := blk_cell k0.out 1
  have XW := Lib.hid xW
  clear h hA xW hst hb hv v1 hs hkl
  go_enter Tryz.func19, Tryz.ntmps19
  go_upto_region 1 with fail
  (try rw [hW])
  clear hW
  go_wp2_with fail
  refine IS.out.mono ?_
  rintro e w1 ⟨rfl, rfl⟩
  go_wp2_with fail
  refine LN.out.mono ?_
  rintro e w1 ⟨rfl, rfl⟩
  go_wp2_with fail
  refine SPP.out.mono ?_
  rintro e w1 ⟨rfl, D2, h2, g2, n2⟩
  have HG : Hid (DaeGo W gd g C D (L.length + 1) a.ks a.dr (upd1 a.ls n (hangL (a.ls n))) w1) := Lib.hid ⟨C, xb, L, D2, Nat.le_succ _, h2, g2, n2⟩
  clear h2 g2 n2
  go_wp2_with fail
  go_ret
  exact ⟨rfl, DaeGo.back XW.out HG.out⟩
/-- Do of bytes that come -/
def FeedTo (g : CoK) (n : Nat) (xs : List Nat) (a b : DSt) : Prop := ∀ (w : World) (gd : Nat) (C : Nat → Prop) (xb : Nat → Nat) (L : List AccE) (D : Nat → Nat → Prop) (A : Option Addr) (m c : Nat), DaeAt w gd g C xb L a.ks a.dr a.ls D → xs.length = m → Rd w A (vals .u8 xs) →
  Calls Tryz.prog 19 #[ptrV gd, .agg #[.int .u8 2, .int .i64 (n : Int), .slice A m c, .int .i64 0]] w fun e w' => e = .returned (.int .i64 0) ∧ DaeGo w gd g C D L.length b.ks b.dr b.ls w'
set_option maxRecDepth 100000 in
set_option maxHeartbeats 2000000 in
theorem do_feed {g : CoK} {n : Nat} {a : DSt} {s : CSt} {xs : List Nat} (hn : n < 63) (hst : (a.ls n).st = 1) (hdr : a.dr = false) (hs : (a.ls n).cn = some s) (hi : CInv s) (hc : s.closed = false) (hf : s.fin = 0) (hcl : s.cl = false) (hb : ∀ x ∈ xs, x < 256) (hN : s.ws.length + xs.length ≤ 5000000000000) (hP : s.line.length + (parse (s.ws ++ xs)).1.length ≤ 1000000) :
    FeedTo g n xs a { a with ls := upd1 a.ls n { a.ls n with cn := some (fedS s (s.ws ++ xs)) } } := by
  intro w gd C xb L D A m c h hm hr
  obtain ⟨W, hW⟩ : ∃ W, (w.alloc (.cells #[.int .u8 2, .int .i64 (n : Int), .slice A m c, .int .i64 0] 90)) = W := ⟨_, rfl⟩
  have xW : Ext w W := by rw [← hW]; exact (Ext.refl w).alloc _
  have k0 := Lib.hid (show W.heap[w.heap.size]? = some (.cells #[.int .u8 2, .int .i64 (n : Int), .slice A m c, .int .i64 0] 90 (0, 0)) by rw [← hW]; exact blk_new w _)
  have hA := h.ext xW
  have IS := Lib.hid (dis_ok n W hn)
  have LN := Lib.hid (dline_on W gd g C xb L a.ks a.dr a.ls D n hA hn (by omega))
  obtain ⟨cs, t, v, hbk, hv, hln, -, d3, -⟩ := hA.lineA hn
  obtain ⟨-, -, -, -, -, -, -, v1, -⟩ := hln
  rw [hst] at v1
  rw [hdr] at d3
  have c1 : W.cell? ⟨gd, 1 + n * 6 + 1, none⟩ = some (.int .i64 1) := (blk_cell hbk _).trans (by have := hv 1 (by omega); rw [v1] at this; exact this)
  have c3 : W.cell? ⟨gd, 379, none⟩ = some (.bool false) := (blk_cell hbk _).trans d3
  obtain ⟨base, gc, r, Lb, RO, cc1, hca, ngd, hLlt, -, -, hcg⟩ := h.conn hn hs
  have cc0 := ext_cell xW cc1
  have FD := Lib.hid (fun u (y : Ext W u) => cfeed_open u base gc r Lb RO s (hca.ext (xW.trans y)) hi hc hf hcl A m c xs hm hb ((hr.ext xW).ext y) (by omega) hP)
  have HCG := Lib.hid hcg
  have NG := Lib.hid ngd
  have e0 : W.cell? ⟨w.heap.size, 0, none⟩ = some (.int .u8 2) := blk_cell k0.out 0
  have e1 : W.cell? ⟨w.heap.size, 1, none⟩ = some (.int .i64 (n : Int)) := blk_cell k0.out 1
  have e2 : W.cell? ⟨w.heap.size, 2, none⟩ = some (.slice A m c) := blk_cell k0.out 2
  have XW := Lib.hid xW
  have NE := Lib.hid (show ¬ some w.heap.size ∈ Lb from fun e => Nat.lt_irrefl _ (hLlt _ e))
  clear h hA xW hst hbk hv v1 hs hca hcg ngd hLlt hi hb hr d3 cc1
  go_enter Tryz.func19, Tryz.ntmps19
  go_upto_region 1 with fail
  (try rw [hW])
  clear hW
  go_wp2_with fail
  refine IS.out.mono ?_
  rintro e w1 ⟨rfl, rfl⟩
  go_wp2_with fail
  refine LN.out.mono ?_
  rintro e w1 ⟨rfl, rfl⟩
  go_upto_region 23 with fail
  go_region_held3 (fun w' => w'.cell? ⟨gd, 1 + n * 6, none⟩ = some (ptrV gc) ∧ w'.cell? ⟨w.heap.size, 2, none⟩ = some (.slice A m c))
    (((try go_split_ands); exact ⟨(by first | (with_reducible exact drew_cell cc0) | (with_reducible exact cc0) | (with_reducible exact tcc0) | (with_reducible exact drew_cell tcc0) | (with_reducible assumption) | (with_reducible exact cell_past tcc0 _) | (with_reducible exact drew_cell (cell_past cc0 _))), (by first | (with_reducible exact drew_cell e2) | (with_reducible exact e2) | (with_reducible exact te2) | (with_reducible exact drew_cell te2) | (with_reducible assumption) | (with_reducible exact cell_past te2 _) | (with_reducible exact drew_cell (cell_past e2 _)))⟩))
    ((go_at_call 59; (with_reducible refine (FD.out _ (by first | (with_reducible exact Ext.refl _) | (with_reducible exact (Ext.refl _).drew))).mono ?_); rintro e w3 ⟨rfl, hgo⟩; have HGO := Lib.hid (ConnGo.back (XW.out.trans (show Ext W _ from by first | (with_reducible exact Ext.refl _) | (with_reducible exact (Ext.refl _).drew))) hgo); obtain ⟨_, _, _, gg, _⟩ := hgo; have tcc0 := gg.cell (by first | (with_reducible exact cc0) | (with_reducible exact drew_cell cc0)) NG.out; have te2 := gg.cell (by first | (with_reducible exact e2) | (with_reducible exact drew_cell e2)) NE.out; clear gg))
  all_goals
    go_wp2_with fail
    go_ret
    obtain ⟨a1, a2, a3⟩ := HCG.out _ _ HGO.out
    exact ⟨rfl, C, xb, L, _, Nat.le_refl _, a1, a2, a3⟩
end

section
open Go.RowKit

theorem po_info : (Tryz.prog.info? 80).map (fun i => (i.zero, i.size, i.bytes)) = some (some (.agg #[.int .u8 0, .int .i64 0, .int .i64 0, .int .i64 0]), 4, 32) := by kernel_rfl
/-- append onto a row of one's own -/
theorem po_app {ops : Array Oper} {rest : List Oper} {o : Oper} {a : Act} {Q : Exit → Act → World → Prop} (w : World) (hgd : o.guard = none) (s x : Operand)
    (ho : o.op = .call { callee := .builtin .append, args := #[s, x], argTypes := #[26, 26] })
    (base : Nat) {B : Option Addr} {n cb : Nat} {xs : List Value} (hs : a.eval s = .slice B n cb) (hown : w.ownsRow base 80 4 (.slice B n cb) n xs)
    {A : Option Addr} {m c : Nat} {news : List Value} (hx : a.eval x = .slice A m c) (hl : news.length = m * 4) (hr : Rd w A news) (h1 : ∀ u ∈ news, u.oneCell' = true) (hb : n + m ≤ 1000000) (hbase : base ≤ w.heap.size)
    (h : ∀ B' cb' w', w'.ownsRow base 80 4 (.slice B' (n + m) cb') (n + m) (xs ++ news) → w.grownBy w' (Value.slice B n cb).ownBlock →
      ((Value.slice B' (n + m) cb').ownBlock = (Value.slice B n cb).ownBlock ∨ (Value.slice B' (n + m) cb').ownBlock = some w.heap.size) → wpList Tryz.prog ops Q rest (a.put o.dst (.slice B' (n + m) cb')) w') :
    wpList Tryz.prog ops Q (o :: rest) a w := by
  obtain ⟨i0, hi, hz0, hz1, hz2⟩ := info_parts po_info
  exact wpList_append_rd w hgd s x 26 ho base 80 Tryz.underlying26 hi hz0 hz1 hz2 rfl (by decide) hs hown hx hl hr h1 (by unfold maxLen; omega) (by omega) hbase h
theorem po_nilq (w : World) (A : Option Addr) (n c n' c' : Nat) : (binOp .eql 26 (.slice A n c) (.slice none n' c')).run Tryz.prog w = .ok (.bool A.isNone) w := Lib.run_eql_slice_nil w _ _ A n c n' c' Tryz.underlying26
/-- a copy in new memory -/
def po_CloneR (n : Nat) (xs : List Value) (w : World) (e : Ending) (w' : World) : Prop := ∃ B d, e = .returned (.slice B n d) ∧ w'.ownsRow w.heap.size 80 4 (.slice B n d) n xs ∧ Ext w w'
set_option maxHeartbeats 1000000 in
theorem po_clone (w : World) (A : Option Addr) (n c : Nat) (xs : List Value) (hl : xs.length = n * 4) (hn : n ≤ 100000) (hr : Rd w A xs) (h1 : ∀ u ∈ xs, u.oneCell' = true) :
    Calls Tryz.prog 37 #[.slice A n c] w (po_CloneR n xs w) := by
  have q := po_nilq
  have Hl := Lib.hid hl; have Hr := Lib.hid hr; have H1 := Lib.hid h1
  cases A with
  | none =>
    have hx : xs = [] := by
      rcases Classical.em (xs = []) with h | h
      · exact h
      · obtain ⟨b, off, e, _⟩ := hr h; cases e
    have hn0 : n = 0 := by rw [hx] at hl; simp at hl; omega
    subst hn0 hx
    clear hl hr h1
    go_enter Tryz.func37, Tryz.ntmps37
    go_wp2_with fail
    go_ret
    exact ⟨none, 0, rfl, World.ownsRow_nil _ _ _ _, Ext.refl _⟩
  | some a =>
    clear hl hr h1
    have h0 : (w.alloc (.cells #[] 80)).ownsRow w.heap.size 80 4 (.slice (some ⟨w.heap.size, 0, none⟩) 0 0) 0 [] := own_made w [] 80 4 0 rfl (Nat.zero_le _) (Nat.le_refl _)
    go_enter Tryz.func37, Tryz.ntmps37
    go_wp2_with (at_builtin; refine po_app _ rfl (.tmp 5) (.tmp 6) rfl w.heap.size rfl h0 rfl Hl.out (Hr.out.alloc _) H1.out (by omega) (by simp) ?_; intro A' c' w1 hown hgrow _; simp only [Nat.zero_add, List.nil_append] at hown)
    go_ret
    exact ⟨A', c', rfl, hown, ((Ext.refl w).alloc _).grown hgrow (by simp [Value.ownBlock])⟩
end

section
open Go.RowKit

theorem kbswap_raw (w : World) (Fm : Nat → Prop) (gm gb gh : Nat) (t : TypeId) (cs : Array Value) (u : Value) (h : MachAt w Fm gm (List.replicate 34 0) 0 []) (b0 : w.cell? ⟨gb, 0, none⟩ = some (ptrV gm)) (b1 : w.cell? ⟨gb, 1, none⟩ = some (.slice (some ⟨gh, 0, none⟩) 34 34)) (hh : w.heap[gh]? = some (.cells cs t (0, 0))) (hc : cs[1]? = some u) (hu : u = .slice none 0 0) (hb : ¬ Fm gb) (hg : ¬ Fm gh) :
    Calls Tryz.prog 80 #[ptrV gb, .int .i64 0, .int .i64 1, .int .u64 0, .int .u64 1, .slice none 0 0] w (fun e w' => e = .returned (.bool true) ∧ ∃ w1, MachGo w Fm gm ((List.replicate 34 0).set 1 1) 0 [⟨0, 2, 1, 0, 1, true⟩] w1 ∧ w' = w1.setCell ⟨gh, 1, none⟩ (.slice none 0 0)) := by
  have LD := Lib.hid (show Calls Tryz.prog 125 #[.pointer (some ⟨gm, 0, none⟩), .int .i64 0, .int .i64 1, .int .u64 0, .int .u64 1] w fun e w' => e = .returned (.tuple #[.bool true, .int .i64 0]) ∧ MachGo w Fm gm ((List.replicate 34 0).set 1 1) 0 [⟨0, 2, 1, 0, 1, true⟩] w' from
    swap_hit w Fm gm (List.replicate 34 0) 0 [] 0 1 0 1 h (by simp) (by omega) (by omega) rfl)
  have g0 : w.cell? ⟨gh, 1, none⟩ = some (.slice none 0 0) := by rw [← hu]; exact (blk_cell hh 1).trans hc
  clear h hc hu
  go_enter Tryz.func80, Tryz.ntmps80
  go_wp2_with fail
  refine LD.out.mono ?_
  rintro e w1 ⟨rfl, hgo⟩
  have HG := Lib.hid hgo
  obtain ⟨_, _, g, _⟩ := hgo
  have c0 := g.cell b0 hb; have c1 := g.cell b1 hb; have d0 := g.cell g0 hg; have fz := blk_frozen (g.blk hh hg) 1
  clear b0 b1 g0 g hh
  go_wp2_with fail
  go_ret
  exact ⟨rfl, w1, HG.out, rfl⟩
def BdNew (w : World) (e : Ending) (w' : World) : Prop :=
  ∃ (gb gm gh : Nat) (Fm : Nat → Prop) (tb th : TypeId), e = .returned (ptrV gb) ∧ MachAt w' Fm gm (List.replicate 34 0) 0 [] ∧ w'.heap[gb]? = some (.cells #[ptrV gm, .slice (some ⟨gh, 0, none⟩) 34 34] tb (0, 0)) ∧ w'.heap[gh]? = some (.cells (List.replicate 34 (.slice none 0 0)).toArray th (0, 0)) ∧ Ext w w' ∧ (∀ i, Fm i → w.heap.size ≤ i) ∧ w.heap.size ≤ gb ∧ w.heap.size ≤ gh ∧ ¬ Fm gb ∧ ¬ Fm gh ∧ gb ≠ gh
theorem info_cells : (Tryz.prog.info? 56).map (fun i => (i.zero, i.size, i.bytes)) = some (some (.slice none 0 0), 1, 24) := by kernel_rfl
theorem made_34 : madeCells #[.slice none 0 0] 34 = (List.replicate 34 (Value.slice none 0 0)).toArray := by kernel_rfl
set_option maxHeartbeats 1000000 in
set_option maxRecDepth 100000 in
theorem kbnew_any (w : World) : Calls Tryz.prog 79 #[.int .i64 34] w (BdNew w) := by
  have hmk : ∀ w : World, (Instr.makeSlice 209 (.int .i64 34) (.int .i64 34)).run Tryz.prog w = .ok (.slice (some ⟨w.heap.size, 0, none⟩) 34 34) (w.alloc (.cells (madeCells #[.slice none 0 0] 34) 56)) := run_make_row' (P := Tryz.prog) 209 56 (.slice none 0 0) 24 Tryz.underlying209 info_cells rfl .i64 .i64 34 (by omega) (by omega)
  go_enter Tryz.func79, Tryz.ntmps79
  go_wp2_with fail
  refine (mnew_ok 34 w (by omega) (by omega)).mono ?_
  rintro e w1 ⟨gm, Fm, rfl, m1, x1, f1, hg⟩
  have M1 := Lib.hid m1
  clear m1
  go_wp2_with fail
  go_ret
  have hlt := M1.out.lt
  refine ⟨w1.heap.size + 1, gm, w1.heap.size, Fm, _, 56, rfl, M1.out.ext (((Ext.refl w1).alloc _).alloc _), blk_newk _ _ (by simp), (blk_past (blk_new w1 _) _).trans (by rw [made_34]), (x1.alloc _).alloc _, f1, by have := x1.size; omega, x1.size, fun e => ?_, fun e => ?_, by omega⟩
  · have := hlt _ e; omega
  · have := hlt _ e; omega
/-- a new directory: the board's word of the one shard is set -/
def LnNew (w : World) (e : Ending) (w' : World) : Prop :=
  ∃ (gl gb gm gh : Nat) (Fm : Nat → Prop) (tl tb th : TypeId), e = .returned (ptrV gl) ∧ MachAt w' Fm gm ((List.replicate 34 0).set 1 1) 0 [⟨0, 2, 1, 0, 1, true⟩] ∧ w'.heap[gl]? = some (.cells #[ptrV gb, fnV 39 #[]] tl (0, 0)) ∧ w'.heap[gb]? = some (.cells #[ptrV gm, .slice (some ⟨gh, 0, none⟩) 34 34] tb (0, 0)) ∧
    w'.heap[gh]? = some (.cells (List.replicate 34 (.slice none 0 0)).toArray th (0, 0)) ∧ Ext w w' ∧ (∀ i, Fm i → w.heap.size ≤ i) ∧ w.heap.size ≤ gl ∧ w.heap.size ≤ gb ∧ w.heap.size ≤ gh ∧ ¬ Fm gl ∧ ¬ Fm gb ∧ ¬ Fm gh ∧ gb ≠ gh ∧ gl ≠ gh
set_option maxHeartbeats 1000000 in
set_option maxRecDepth 100000 in
theorem klnew_any (w : World) : Calls Tryz.prog 38 #[.int .i64 2, .slice none 0 0, fnV 39 #[]] w (LnNew w) := by
  have BN := Lib.hid (kbnew_any w)
  have PL := Lib.hid (fun w => show Calls Tryz.prog 81 #[.int .i64 0, .int .u64 0] w fun e w' => e = .returned (.int .i64 1) ∧ w = w' from place_any 0 0 w (by omega) (by omega))
  go_enter Tryz.func38, Tryz.ntmps38
  go_wp2_with fail
  refine BN.out.mono ?_
  rintro e w1 ⟨gb, gm, gh, Fm, tb, th, rfl, m1, hb, hh, x1, f1, gb1, gh1, nb, nh, ne⟩
  obtain ⟨W, hW⟩ : ∃ W, (w1.alloc (.cells #[ptrV gb, fnV 39 #[]] 194)) = W := ⟨_, rfl⟩
  have xW : Ext w1 W := by rw [← hW]; exact (Ext.refl w1).alloc _
  have k0 : W.heap[w1.heap.size]? = some (.cells #[ptrV gb, fnV 39 #[]] 194 (0, 0)) := by rw [← hW]; exact blk_new w1 _
  have SW := Lib.hid (kbswap_raw W.drew Fm gm gb gh th _ _ ((m1.ext xW).ext (Ext.refl W).drew) (blk_cell (blk_ext hb xW.drew) 0) (blk_cell (blk_ext hb xW.drew) 1) (blk_ext hh xW.drew) (by rfl) rfl nb nh)
  have e0 : W.cell? ⟨w1.heap.size, 0, none⟩ = some (ptrV gb) := blk_cell k0 0
  have hgh : gh < w1.heap.size := blk_lt hh
  have hgb : gb < w1.heap.size := blk_lt hb
  have hlt := m1.lt
  have nwf : ¬ Fm w1.heap.size := fun e => Nat.lt_irrefl _ (hlt _ e)
  have ngh : w1.heap.size ≠ gh := by omega
  have KB := Lib.hid (blk_ext hb xW); have KH := Lib.hid (blk_ext hh xW); have K0 := Lib.hid k0
  have XW := Lib.hid (x1.trans xW); have F1 := Lib.hid f1; have HW := Lib.hid hW
  have X1 := Lib.hid x1
  have HS := Lib.hid xW.size
  clear m1 hb hh x1 f1 xW k0 hW hlt
  go_upto_region 2 with fail
  (try rw [HW.out])
  clear HW
  go_region_held3 (fun w' => w'.cell? ⟨w1.heap.size, 0, none⟩ = some (ptrV gb))
    (((try go_split_ands); exact (by first | (with_reducible exact drew_cell e0) | (with_reducible exact e0) | (with_reducible exact te0) | (with_reducible exact drew_cell te0) | (with_reducible assumption) | (with_reducible exact cell_past te0 _) | (with_reducible exact drew_cell (cell_past e0 _)))))
    (first
      | (go_at_call 81; (with_reducible refine (PL.out _).mono ?_); rintro e w2 ⟨rfl, rfl⟩)
      | (go_at_call 80; (with_reducible refine SW.out.mono ?_); rintro e w2 ⟨rfl, wm, hgo, rfl⟩; have HG := Lib.hid hgo; obtain ⟨-, -, gg, -⟩ := hgo; have te0 := cell_other (i := 1) (u := Value.slice none 0 0) (gg.cell (drew_cell e0) nwf) ngh; clear gg))
  all_goals
    go_wp2_with fail
    go_ret
    obtain ⟨Fm', m, g, f⟩ := HG.out
    have gs : GB wm (wm.setCell ⟨gh, 1, none⟩ (.slice none 0 0)) (· = gh) := (GB.refl wm (· = gh)).set gh _ _ (.inl rfl)
    have hs := HS.out
    have hs1 := X1.out.size
    have hf' : ∀ q, q < W.heap.size → ¬ Fm q → ¬ Fm' q := fun q hq h e => by
      rcases f q e with f | f
      · exact h f
      · have h9 : W.heap.size ≤ q := f
        omega
    have hFm' : ∀ i, Fm' i → w.heap.size ≤ i := fun i hi => (f i hi).elim (F1.out i) (fun h => by have h9 : W.heap.size ≤ i := h; omega)
    have g' : GB W wm Fm := GB.back (Ext.refl W).drew g
    have xx : Ext w (wm.setCell ⟨gh, 1, none⟩ (.slice none 0 0)) := (g'.to_ext XW.out F1.out).grown (grown_set wm gh 1 _) (fun q hq => by injection hq with hq; omega)
    have hz1 : w1.heap.size < W.heap.size := blk_lt K0.out
    refine ⟨w1.heap.size, gb, gm, gh, Fm', _, tb, th, rfl, m.gb gs (fun i hi e => hf' gh (by omega) nh (e ▸ hi)), gs.blk (g'.blk K0.out nwf) ngh, gs.blk (g'.blk KB.out nb) ne, ?_, xx, hFm', by omega, gb1, gh1, hf' _ hz1 nwf, hf' _ (by omega) nb, hf' _ (by omega) nh, ne, ngh⟩
    exact blk_set (g'.blk KH.out nh) 1 _
theorem polsV_one (P : List Pol) : ∀ u ∈ polsV P, u.oneCell' = true := fun u hu => by
  obtain ⟨p, -, hp⟩ := List.mem_flatMap.1 hu
  simp [polV] at hp
  rcases hp with rfl | rfl | rfl | rfl <;> rfl
set_option maxHeartbeats 1000000 in
theorem bknew_ok (P : List Pol) (A : Option Addr) (n c room : Nat) (w : World) (hn : P.length = n) (h32 : n ≤ 32) (hP : ∀ p ∈ P, PolOk p) (hr : Rd w A (polsV P)) (h1 : 1 ≤ room) (h2 : room ≤ 4096) :
    Calls Tryz.prog 36 #[.slice A n c, .int .i64 (room : Int)] w fun e w' => (∃ p, e = .returned (.tuple #[p, .int .i64 0])) ∧ Ext w w' := by
  have PO := Lib.hid (policies_ok P A n c w hn h32 hP hr)
  have CL := Lib.hid (fun u (x : Ext w u) => po_clone u A n c (polsV P) (by rw [polsV_len, hn]) (by omega) (hr.ext x) (polsV_one P))
  have b1 : ¬ (room : Int) < 1 := by omega
  have b2 : ¬ (4096 : Int) < (room : Int) := by omega
  clear hr hP hn
  go_enter Tryz.func36, Tryz.ntmps36
  go_wp2_with fail
  refine PO.out.mono ?_
  rintro e w1 ⟨rfl, hx⟩
  have HX := Lib.hid hx
  clear hx
  go_wp2_with fail
  refine (CL.out _ HX.out).mono ?_
  rintro e w2 ⟨B, d, rfl, -, hx⟩
  have HX2 := Lib.hid (HX.out.trans hx)
  clear hx
  go_wp2_with fail
  go_ret2
  exact ⟨⟨_, ret_t2 rfl rfl⟩, HX2.out.alloc _⟩
def CoNew (w : World) (P : List Pol) (room : Nat) (e : Ending) (w' : World) : Prop :=
  ∃ (g : CoK) (C : Nat → Prop) (L : List AccE), e = .returned (.tuple #[ptrV g.gx, .int .i64 0]) ∧ g.P = P ∧ g.room = room ∧ CoAt w' g (fun _ => False) C (fun _ => 0) L kInit ∧ L.length ≤ 1 ∧ Ext w w' ∧ w.heap.size ≤ g.gx ∧ w.heap.size ≤ g.gl ∧ w.heap.size ≤ g.gb ∧ ∀ i, C i → w.heap.size ≤ i
set_option maxHeartbeats 2000000 in
set_option maxRecDepth 100000 in
theorem corenew_ok (P : List Pol) (A : Option Addr) (n c room : Nat) (w : World) (hn : P.length = n) (h32 : n ≤ 32) (hP : ∀ p ∈ P, PolOk p) (hr : Rd w A (polsV P)) (h1 : 1 ≤ room) (h2 : room ≤ 4096) :
    Calls Tryz.prog 9 #[.slice A n c, .int .i64 (room : Int)] w (CoNew w P room) := by
  have BK := Lib.hid (bknew_ok P A n c room w hn h32 hP hr h1 h2)
  have CL := Lib.hid (fun u (x : Ext w u) => po_clone u A n c (polsV P) (by rw [polsV_len, hn]) (by omega) (hr.ext x) (polsV_one P))
  have LN := Lib.hid (fun u => klnew_any u)
  have hcv : IntKind.u64.wrap (room : Int) = (room : Int) := by rw [IntKind.wrap_u64]; omega
  have Hn := Lib.hid hn
  clear hr hP hn
  go_enter Tryz.func9, Tryz.ntmps9
  go_wp2_with fail
  refine BK.out.mono ?_
  rintro e w1 ⟨⟨p, rfl⟩, hx⟩
  have HX := Lib.hid hx
  clear hx
  go_wp2_with fail
  refine (CL.out _ HX.out).mono ?_
  rintro e w2 ⟨B, d, rfl, ho, hx⟩
  have HX2 := Lib.hid (HX.out.trans hx); have HO := Lib.hid ho
  clear hx ho
  go_wp2_with fail
  refine (LN.out _).mono ?_
  rintro e w3 ⟨gl, gb, gm, gh, Fm, tl, tb, th, rfl, m, hl, hb, hh, x3, f3, zl, zb, zh, nl, nb, nh, ne, ne2⟩
  have Hm := Lib.hid m; have Hl := Lib.hid hl; have Hb := Lib.hid hb; have Hh := Lib.hid hh; have X3 := Lib.hid x3; have F3 := Lib.hid f3
  clear m hl hb hh x3 f3
  go_wp2_with fail
  go_ret2
  have x3 := X3.out; have hm := Hm.out.lt
  have xx := HX2.out.trans x3
  have hz2 := HX2.out.size; have hz3 := x3.size
  have hgl := blk_lt Hl.out; have hgb := blk_lt Hb.out; have hgh := blk_lt Hh.out
  have hrd := fun o => ((rd_of_own_s HO.out).ext x3).alloc o
  refine ⟨⟨w3.heap.size, gl, gb, gm, gh, B, d, P, room⟩, fun i => Fm i ∨ i = gh ∨ i = w3.heap.size, _, ret_t2 rfl rfl, rfl, rfl,
    ⟨Fm, List.replicate 64 .nilFunc, List.replicate 34 (.slice none 0 0), 143, _, _, _, ⟨Hm.out.ext ((Ext.refl w3).alloc _), rfl, rfl, ?_, rfl, blk_past Hl.out _, blk_past Hb.out _, blk_past Hh.out _, rfl, fun i l hl => ?_, hrd _, ?_, fun i v hv => ?_, ?_, nh, ?_, ?_, ?_, .inr (.inr rfl), .inr (.inl rfl), fun i hi => .inl hi, fun i _ hr => ?_, fun i j _ _ hr => ?_, fun i hi => ?_, fun i _ e => e, fun i e => e.elim⟩⟩, Nat.le_refl 1, xx.alloc _, ?_, ?_, ?_, fun i hi => ?_⟩
  · show (w3.alloc _).heap[w3.heap.size]? = some (.cells (Value.slice B P.length d :: _).toArray _ (0, 0))
    rw [Hn.out]
    exact blk_new w3 _
  · have e : l = [] := by
      have := List.mem_of_getElem? hl
      exact List.eq_of_mem_replicate this
    subst e
    have hi : i < 34 := by have := (List.getElem?_eq_some_iff.1 hl).1; simpa [kInit] using this
    exact ⟨none, 0, [], by rw [List.getElem?_replicate, if_pos hi]; rfl, CellsF.nil _ _⟩
  · intro a ha
    obtain ⟨a1, a2, -⟩ := own_at_ge HO.out a ha
    refine ⟨fun e => ?_, by simp; omega⟩
    rcases e with (e | e | e) | e
    · have := F3.out _ e; omega
    · omega
    · omega
    · exact e
  · exact List.eq_of_mem_replicate (List.mem_of_getElem? hv)
  · exact fun e => Nat.lt_irrefl _ (hm _ e)
  · show w3.heap.size ≠ gh; omega
  · rintro ((e | e | e) | e)
    · exact nl e
    · exact ne2 e
    · have : gl = w3.heap.size := e; omega
    · exact e
  · rintro ((e | e | e) | e)
    · exact nb e
    · exact ne e
    · have : gb = w3.heap.size := e; omega
    · exact e
  · cases hr
  · cases hr
  · rw [World.size_alloc]
    rcases hi with e | e | e
    · have := hm _ e; omega
    · omega
    · omega
  · show w.heap.size ≤ w3.heap.size; omega
  · show w.heap.size ≤ gl; omega
  · show w.heap.size ≤ gb; omega
  · rcases hi with e | e | e
    · have := F3.out _ e; omega
    · omega
    · omega
end

section
open Go.RowKit

def lnNew : LSt := ⟨some cInit, 1, [], false, [], false⟩
theorem LnAt.new {w : World} {base gc r : Nat} {L : List (Option Nat)} {RO : Nat → Prop} (h : ConnAt w base L RO gc r cInit) {v : Nat → Value} (h0 : v 0 = ptrV gc) (h1 : v 1 = .int .i64 1) (h2 : v 2 = .slice none 0 0) (h3 : v 3 = .bool false) (h4 : v 4 = .slice none 0 0) (h5 : v 5 = .bool false) :
    LnAt w (fun i => base ≤ i ∧ i < w.heap.size) v lnNew := by
  have hb := h.bounds
  exact ⟨none, none, 0, 0, [], L, fun _ => False, h1, h2, h3, h4, h5, World.ownsRow_nil _ _ _ _, (fun q e => by simp [Value.ownBlock] at e), Nat.le_refl _, ⟨rfl, Rd.nil _ _, fun p hp => by cases hp⟩, (fun a e => by cases e), (fun k hk => by cases hk), (fun _ e => e.elim), (fun b e => hb.2.1 b e), base, gc, r, RO, h0, h, fun b e => ⟨(hb.2.2 b e).2, fun e9 => by simp [Value.ownBlock] at e9⟩⟩
set_option maxRecDepth 100000 in
set_option maxHeartbeats 2000000 in
theorem dconnect (w : World) (gd : Nat) (g : CoK) (C : Nat → Prop) (xb : Nat → Nat) (L : List AccE) (ks : KSt) (dr : Bool) (ls : Nat → LSt) (D : Nat → Nat → Prop) (n : Nat) (h : DaeAt w gd g C xb L ks dr ls D) (hn : n < 63) (hdr : dr = false) :
    Calls Tryz.prog 57 #[ptrV gd, .int .i64 (n : Int), .bool false] w fun e w' => e = .returned (.int .i64 0) ∧ DaeGo w gd g C D L.length ks dr (upd1 ls n lnNew) w' := by
  obtain ⟨cs, t, v, hb, hv, -, hD, d3, -, -, hfin⟩ := h.lineA hn
  have hgd := blk_lt hb
  rw [hdr] at d3
  have c3 : w.cell? ⟨gd, 379, none⟩ = some (.bool false) := (blk_cell hb _).trans d3
  have hi : (0 : Int) ≤ (n : Int) ∧ (n : Int) < ((63 : Nat) : Int) := ⟨by omega, by omega⟩
  have hi2 : (0 : Int) ≤ (n : Int) ∧ (n : Int) < 63 := ⟨by omega, by omega⟩
  have CN := Lib.hid (fun u => cnew_any u)
  have HB := Lib.hid hb; have HV := Lib.hid hv; have HD := Lib.hid hD; have HF := Lib.hid hfin
  have HC := Lib.hid (fun k (hk : k < 6) => (blk_cell hb (1 + n * 6 + k)).trans (hv k hk))
  have HZ := Lib.hid (fun k => blk_frozen hb k)
  clear h hb hv hD hfin d3
  go_enter Tryz.func57, Tryz.ntmps57
  go_upto_region 5 with fail
  go_region_held3 (fun _ => True) (trivial)
    ((go_at_call 99; (with_reducible refine (CN.out _).mono ?_); rintro e w3 ⟨gc, r, Lc, RO, rfl, hca, hx⟩; have HCA := Lib.hid hca; have HX := Lib.hid ((show Ext w _ from by first | (with_reducible exact Ext.refl _) | (with_reducible exact (Ext.refl _).drew)).trans hx); have K3 := blk_ext HB.out HX.out; have p0 : w3.cell? ⟨gd, 1 + n * 6, none⟩ = some (v 0) := ((blk_cell K3 (1 + n * 6 + 0)).trans (HV.out 0 (by omega)) : w3.cell? ⟨gd, 1 + n * 6, none⟩ = some (v 0)); have z0 : w3.frozen? ⟨gd, 1 + n * 6, none⟩ = false := blk_frozen K3 _; have p1 : (w3.setCell ⟨gd, 1 + n * 6, none⟩ (ptrV gc)).cell? ⟨gd, 1 + n * 6 + 1, none⟩ = some (v 1) := (cell_off (u := (ptrV gc)) ((blk_cell K3 (1 + n * 6 + 1)).trans (HV.out 1 (by omega)) : w3.cell? ⟨gd, 1 + n * 6 + 1, none⟩ = some (v 1)) (by omega : ¬ 1 + n * 6 + 1 = 1 + n * 6)); have z1 : (w3.setCell ⟨gd, 1 + n * 6, none⟩ (ptrV gc)).frozen? ⟨gd, 1 + n * 6 + 1, none⟩ = false := blk_frozen (blk_set K3 (1 + n * 6) (ptrV gc)) _; have p2 : ((w3.setCell ⟨gd, 1 + n * 6, none⟩ (ptrV gc)).setCell ⟨gd, 1 + n * 6 + 1, none⟩ (.int .i64 1)).cell? ⟨gd, 1 + n * 6 + 2, none⟩ = some (v 2) := (cell_off (u := (.int .i64 1)) (cell_off (u := (ptrV gc)) ((blk_cell K3 (1 + n * 6 + 2)).trans (HV.out 2 (by omega)) : w3.cell? ⟨gd, 1 + n * 6 + 2, none⟩ = some (v 2)) (by omega : ¬ 1 + n * 6 + 2 = 1 + n * 6)) (by omega : ¬ 1 + n * 6 + 2 = 1 + n * 6 + 1)); have z2 : ((w3.setCell ⟨gd, 1 + n * 6, none⟩ (ptrV gc)).setCell ⟨gd, 1 + n * 6 + 1, none⟩ (.int .i64 1)).frozen? ⟨gd, 1 + n * 6 + 2, none⟩ = false := blk_frozen (blk_set (blk_set K3 (1 + n * 6) (ptrV gc)) (1 + n * 6 + 1) (.int .i64 1)) _; have p3 : (((w3.setCell ⟨gd, 1 + n * 6, none⟩ (ptrV gc)).setCell ⟨gd, 1 + n * 6 + 1, none⟩ (.int .i64 1)).setCell ⟨gd, 1 + n * 6 + 2, none⟩ (.slice none 0 0)).cell? ⟨gd, 1 + n * 6 + 3, none⟩ = some (v 3) := (cell_off (u := (.slice none 0 0)) (cell_off (u := (.int .i64 1)) (cell_off (u := (ptrV gc)) ((blk_cell K3 (1 + n * 6 + 3)).trans (HV.out 3 (by omega)) : w3.cell? ⟨gd, 1 + n * 6 + 3, none⟩ = some (v 3)) (by omega : ¬ 1 + n * 6 + 3 = 1 + n * 6)) (by omega : ¬ 1 + n * 6 + 3 = 1 + n * 6 + 1)) (by omega : ¬ 1 + n * 6 + 3 = 1 + n * 6 + 2)); have z3 : (((w3.setCell ⟨gd, 1 + n * 6, none⟩ (ptrV gc)).setCell ⟨gd, 1 + n * 6 + 1, none⟩ (.int .i64 1)).setCell ⟨gd, 1 + n * 6 + 2, none⟩ (.slice none 0 0)).frozen? ⟨gd, 1 + n * 6 + 3, none⟩ = false := blk_frozen (blk_set (blk_set (blk_set K3 (1 + n * 6) (ptrV gc)) (1 + n * 6 + 1) (.int .i64 1)) (1 + n * 6 + 2) (.slice none 0 0)) _; have p4 : ((((w3.setCell ⟨gd, 1 + n * 6, none⟩ (ptrV gc)).setCell ⟨gd, 1 + n * 6 + 1, none⟩ (.int .i64 1)).setCell ⟨gd, 1 + n * 6 + 2, none⟩ (.slice none 0 0)).setCell ⟨gd, 1 + n * 6 + 3, none⟩ (.bool false)).cell? ⟨gd, 1 + n * 6 + 4, none⟩ = some (v 4) := (cell_off (u := (.bool false)) (cell_off (u := (.slice none 0 0)) (cell_off (u := (.int .i64 1)) (cell_off (u := (ptrV gc)) ((blk_cell K3 (1 + n * 6 + 4)).trans (HV.out 4 (by omega)) : w3.cell? ⟨gd, 1 + n * 6 + 4, none⟩ = some (v 4)) (by omega : ¬ 1 + n * 6 + 4 = 1 + n * 6)) (by omega : ¬ 1 + n * 6 + 4 = 1 + n * 6 + 1)) (by omega : ¬ 1 + n * 6 + 4 = 1 + n * 6 + 2)) (by omega : ¬ 1 + n * 6 + 4 = 1 + n * 6 + 3)); have z4 : ((((w3.setCell ⟨gd, 1 + n * 6, none⟩ (ptrV gc)).setCell ⟨gd, 1 + n * 6 + 1, none⟩ (.int .i64 1)).setCell ⟨gd, 1 + n * 6 + 2, none⟩ (.slice none 0 0)).setCell ⟨gd, 1 + n * 6 + 3, none⟩ (.bool false)).frozen? ⟨gd, 1 + n * 6 + 4, none⟩ = false := blk_frozen (blk_set (blk_set (blk_set (blk_set K3 (1 + n * 6) (ptrV gc)) (1 + n * 6 + 1) (.int .i64 1)) (1 + n * 6 + 2) (.slice none 0 0)) (1 + n * 6 + 3) (.bool false)) _; have p5 : (((((w3.setCell ⟨gd, 1 + n * 6, none⟩ (ptrV gc)).setCell ⟨gd, 1 + n * 6 + 1, none⟩ (.int .i64 1)).setCell ⟨gd, 1 + n * 6 + 2, none⟩ (.slice none 0 0)).setCell ⟨gd, 1 + n * 6 + 3, none⟩ (.bool false)).setCell ⟨gd, 1 + n * 6 + 4, none⟩ (.slice none 0 0)).cell? ⟨gd, 1 + n * 6 + 5, none⟩ = some (v 5) := (cell_off (u := (.slice none 0 0)) (cell_off (u := (.bool false)) (cell_off (u := (.slice none 0 0)) (cell_off (u := (.int .i64 1)) (cell_off (u := (ptrV gc)) ((blk_cell K3 (1 + n * 6 + 5)).trans (HV.out 5 (by omega)) : w3.cell? ⟨gd, 1 + n * 6 + 5, none⟩ = some (v 5)) (by omega : ¬ 1 + n * 6 + 5 = 1 + n * 6)) (by omega : ¬ 1 + n * 6 + 5 = 1 + n * 6 + 1)) (by omega : ¬ 1 + n * 6 + 5 = 1 + n * 6 + 2)) (by omega : ¬ 1 + n * 6 + 5 = 1 + n * 6 + 3)) (by omega : ¬ 1 + n * 6 + 5 = 1 + n * 6 + 4)); have z5 : (((((w3.setCell ⟨gd, 1 + n * 6, none⟩ (ptrV gc)).setCell ⟨gd, 1 + n * 6 + 1, none⟩ (.int .i64 1)).setCell ⟨gd, 1 + n * 6 + 2, none⟩ (.slice none 0 0)).setCell ⟨gd, 1 + n * 6 + 3, none⟩ (.bool false)).setCell ⟨gd, 1 + n * 6 + 4, none⟩ (.slice none 0 0)).frozen? ⟨gd, 1 + n * 6 + 5, none⟩ = false := blk_frozen (blk_set (blk_set (blk_set (blk_set (blk_set K3 (1 + n * 6) (ptrV gc)) (1 + n * 6 + 1) (.int .i64 1)) (1 + n * 6 + 2) (.slice none 0 0)) (1 + n * 6 + 3) (.bool false)) (1 + n * 6 + 4) (.slice none 0 0)) _; clear hca hx K3))
  all_goals
    go_wp2_with fail
    go_ret
    refine ⟨rfl, ?_⟩
    obtain ⟨b0, v0, j0⟩ := line_set (blk_ext HB.out HX.out) (n := n) (k0 := 0) (v := v) (by omega) HV.out (ptrV gc)
    obtain ⟨b1, v1, j1⟩ := line_set b0 (n := n) (k0 := 1) (v := (upd1 v 0 (ptrV gc))) (by omega) v0 (.int .i64 1)
    obtain ⟨b2, v2, j2⟩ := line_set b1 (n := n) (k0 := 2) (v := (upd1 (upd1 v 0 (ptrV gc)) 1 (.int .i64 1))) (by omega) v1 (.slice none 0 0)
    obtain ⟨b3, v3, j3⟩ := line_set b2 (n := n) (k0 := 3) (v := (upd1 (upd1 (upd1 v 0 (ptrV gc)) 1 (.int .i64 1)) 2 (.slice none 0 0))) (by omega) v2 (.bool false)
    obtain ⟨b4, v4, j4⟩ := line_set b3 (n := n) (k0 := 4) (v := (upd1 (upd1 (upd1 (upd1 v 0 (ptrV gc)) 1 (.int .i64 1)) 2 (.slice none 0 0)) 3 (.bool false))) (by omega) v3 (.slice none 0 0)
    obtain ⟨b5, v5, j5⟩ := line_set b4 (n := n) (k0 := 5) (v := (upd1 (upd1 (upd1 (upd1 (upd1 v 0 (ptrV gc)) 1 (.int .i64 1)) 2 (.slice none 0 0)) 3 (.bool false)) 4 (.slice none 0 0))) (by omega) v4 (.bool false)
    have gs : GB w3 ((((((w3.setCell ⟨gd, 1 + n * 6, none⟩ (ptrV gc)).setCell ⟨gd, 1 + n * 6 + 1, none⟩ (.int .i64 1)).setCell ⟨gd, 1 + n * 6 + 2, none⟩ (.slice none 0 0)).setCell ⟨gd, 1 + n * 6 + 3, none⟩ (.bool false)).setCell ⟨gd, 1 + n * 6 + 4, none⟩ (.slice none 0 0)).setCell ⟨gd, 1 + n * 6 + 5, none⟩ (.bool false)) (· = gd) := (((((((GB.refl w3 (· = gd)).set gd (1 + n * 6) (ptrV gc) (.inl rfl)).set gd (1 + n * 6 + 1) (.int .i64 1) (.inl rfl)).set gd (1 + n * 6 + 2) (.slice none 0 0) (.inl rfl)).set gd (1 + n * 6 + 3) (.bool false) (.inl rfl)).set gd (1 + n * 6 + 4) (.slice none 0 0) (.inl rfl)).set gd (1 + n * 6 + 5) (.bool false) (.inl rfl))
    have hln := (LnAt.new (HCA.out.gb gs (fun b (e : b = gd) => ⟨fun e9 => by have := (HCA.out.bounds.2.1 b e9).1; rw [e] at this; exact Nat.lt_irrefl _ (Nat.lt_of_lt_of_le hgd this), fun e9 => by have := (HCA.out.bounds.2.2 b e9).2.1; rw [e] at this; exact Nat.lt_irrefl _ (Nat.lt_of_lt_of_le hgd this)⟩)) (v := (upd1 (upd1 (upd1 (upd1 (upd1 (upd1 v 0 (ptrV gc)) 1 (.int .i64 1)) 2 (.slice none 0 0)) 3 (.bool false)) 4 (.slice none 0 0)) 5 (.bool false))) (by simp [upd1]) (by simp [upd1]) (by simp [upd1]) (by simp [upd1]) (by simp [upd1]) (by simp [upd1]))
    obtain ⟨a1, a2, a3⟩ := HF.out _ _ _ _ _ ((GB.of_ext (fun i => i = gd ∨ D n i) HX.out).trans gs (fun i e => .inl (.inl e))) b5 v5 (fun j hj => (j5 j hj).trans ((j4 j hj).trans ((j3 j hj).trans ((j2 j hj).trans ((j1 j hj).trans (j0 j hj)))))) hln (fun i hi => ⟨.inr hi.1, hi.2⟩)
    exact ⟨C, xb, L, _, Nat.le_refl _, a1, a2, a3⟩
set_option maxRecDepth 100000 in
set_option maxHeartbeats 2000000 in
theorem do_connect {g : CoK} {n : Nat} {a : DSt} (hn : n < 63) (hst : (a.ls n).st = 0) (hdr : a.dr = false) : DoTo g 1 n 0 0 a { a with ls := upd1 a.ls n lnNew } := by
  intro w gd C xb L D h hL
  obtain ⟨W, hW⟩ : ∃ W, (w.alloc (.cells #[.int .u8 1, .int .i64 (n : Int), .slice none 0 0, .int .i64 0] 90)) = W := ⟨_, rfl⟩
  have xW : Ext w W := by rw [← hW]; exact (Ext.refl w).alloc _
  have k0 := Lib.hid (show W.heap[w.heap.size]? = some (.cells #[.int .u8 1, .int .i64 (n : Int), .slice none 0 0, .int .i64 0] 90 (0, 0)) by rw [← hW]; exact blk_new w _)
  have hA := h.ext xW
  have IS := Lib.hid (dis_ok n W hn)
  have LN := Lib.hid (dline_off W gd g C xb L a.ks a.dr a.ls D n hA hn hst)
  have SPP := Lib.hid (dconnect W gd g C xb L a.ks a.dr a.ls D n hA hn hdr)
  have e0 : W.cell? ⟨w.heap.size, 0, none⟩ = some (.int .u8 1) := blk_cell k0.out 0
  have e1 : W.cell? ⟨w.heap.size, 1, none⟩ = some (.int .i64 (n : Int)) := blk_cell k0.out 1
  have XW := Lib.hid xW
  clear h hA xW hst hL
  go_enter Tryz.func19, Tryz.ntmps19
  go_upto_region 1 with fail
  (try rw [hW])
  clear hW
  go_wp2_with fail
  refine IS.out.mono ?_
  rintro e w1 ⟨rfl, rfl⟩
  go_wp2_with fail
  refine LN.out.mono ?_
  rintro e w1 ⟨rfl, rfl⟩
  go_wp2_with fail
  refine SPP.out.mono ?_
  rintro e w1 ⟨rfl, hgo⟩
  have HG := Lib.hid hgo
  clear hgo
  go_wp2_with fail
  go_ret
  obtain ⟨C', xb', L', D', h1, h2, h3, h4⟩ := DaeGo.back XW.out HG.out
  exact ⟨rfl, C', xb', L', D', Nat.le_succ_of_le h1, h2, h3, h4⟩
def lz : List Value := [.pointer none, .int .i64 0, .slice none 0 0, .bool false, .slice none 0 0, .bool false]
def dz : List Value := .pointer none :: ((List.replicate 63 lz).flatten ++ [.bool false])
theorem dz_eq : Tryz.zeroCells164 = dz.toArray := by kernel_rfl
theorem lz_get : ∀ (m n k : Nat), n < m → k < 6 → (List.replicate m lz).flatten[n * 6 + k]? = lz[k]?
  | 0, n, k, h, _ => by omega
  | m + 1, 0, k, _, hk => by
    rw [List.replicate_succ, List.flatten_cons, Nat.zero_mul, Nat.zero_add, List.getElem?_append_left (by exact hk)]
  | m + 1, n + 1, k, h, hk => by
    have := lz_get m n k (by omega) hk
    rw [List.replicate_succ, List.flatten_cons, List.getElem?_append_right (by show 6 ≤ _; omega), show (n + 1) * 6 + k - lz.length = n * 6 + k by show (n + 1) * 6 + k - 6 = _; omega]
    exact this
theorem lz_lens : ∀ m, (List.replicate m lz).flatten.length = m * 6
  | 0 => rfl
  | m + 1 => by
    rw [List.replicate_succ, List.flatten_cons, List.length_append, lz_lens m, show lz.length = 6 from rfl]
    omega
theorem lz_len : (List.replicate 63 lz).flatten.length = 378 := lz_lens 63
theorem dz_get (p : Value) {n k : Nat} (hn : n < 63) (hk : k < 6) : (dz.toArray.setIfInBounds 0 p)[1 + n * 6 + k]? = lz[k]? := by
  rw [Array.getElem?_setIfInBounds_ne (by omega), List.getElem?_toArray, show 1 + n * 6 + k = (n * 6 + k) + 1 by omega]
  unfold dz
  rw [List.getElem?_cons_succ, List.getElem?_append_left (by rw [lz_len]; omega)]
  exact lz_get 63 n k hn hk
theorem dz_0 (p : Value) : (dz.toArray.setIfInBounds 0 p)[0]? = some p := by
  rw [Array.getElem?_setIfInBounds_self_of_lt]
  exact (by show 0 < dz.length; unfold dz; simp)
theorem dz_end (p : Value) : (dz.toArray.setIfInBounds 0 p)[379]? = some (.bool false) := by
  rw [Array.getElem?_setIfInBounds_ne (by omega), List.getElem?_toArray]
  unfold dz
  rw [show 379 = 378 + 1 from rfl, List.getElem?_cons_succ, List.getElem?_append_right (by rw [lz_len]; omega), lz_len]
  rfl
/-- a new daemon -/
def dInit : DSt := ⟨kInit, fun _ => lnZ, false⟩
def DaeNew (w : World) (P : List Pol) (room : Nat) (e : Ending) (w' : World) : Prop :=
  ∃ (gd : Nat) (g : CoK) (C : Nat → Prop) (xb : Nat → Nat) (L : List AccE) (D : Nat → Nat → Prop), e = .returned (.tuple #[ptrV gd, .int .i64 0]) ∧ g.P = P ∧ g.room = room ∧ DaeAt w' gd g C xb L dInit.ks dInit.dr dInit.ls D ∧ L.length ≤ 1 ∧ Ext w w' ∧ ∀ i, DSet gd C D i → w.heap.size ≤ i
set_option maxRecDepth 100000 in
set_option maxHeartbeats 2000000 in
theorem dnew_ok (P : List Pol) (A : Option Addr) (n c room : Nat) (w : World) (hn : P.length = n) (h32 : n ≤ 32) (hP : ∀ p ∈ P, PolOk p) (hr : Rd w A (polsV P)) (h1 : 1 ≤ room) (h2 : room ≤ 4096) :
    Calls Tryz.prog 18 #[.slice A n c, .int .i64 (room : Int)] w (DaeNew w P room) := by
  have CN := Lib.hid (corenew_ok P A n c room w hn h32 hP hr h1 h2)
  clear hn h32 hP hr h1 h2
  go_enter Tryz.func18, Tryz.ntmps18
  go_wp2_with fail
  refine CN.out.mono ?_
  rintro e w1 ⟨g, C, L, rfl, hP, hroom, hco, hL, hx, -, -, -, hC⟩
  have HCO := Lib.hid hco; have HX := Lib.hid hx; have HC := Lib.hid hC; have HP := Lib.hid hP; have HR := Lib.hid hroom; have HL := Lib.hid hL
  clear hco hx hC hP hroom hL
  go_wp2_with fail
  go_ret2
  have hz := HX.out.size
  have hb : ∀ (o : Obj), (w1.alloc o).heap[w1.heap.size]? = some o := fun o => blk_new w1 o
  rw [dz_eq]
  have hb9 := hb (.cells (dz.toArray.setIfInBounds 0 (ptrV g.gx)) 164 (0, 0))
  refine ⟨w1.heap.size, g, C, fun _ => 0, L, fun _ _ => False, ret_t2 rfl rfl, HP.out, HR.out, ⟨fun _ k => (lz[k]?).getD (.bool false), ?_, ⟨_, _, hb9⟩, (blk_cell hb9 0).trans (dz_0 _), (blk_cell hb9 379).trans (dz_end _), fun n k hn hk => ?_, fun n hn => LnAt.zero _ _ _ rfl rfl rfl rfl rfl rfl, fun n i hi => hi.elim, fun n m i hi => hi.elim⟩, HL.out, HX.out.alloc _, fun i hi => ?_⟩
  · refine HCO.out.far (GB.of_ext (fun _ => False) ((Ext.refl w1).alloc _)) (fun _ _ e => e.elim) (fun i hi e => ?_) (fun i e => ?_)
    · rcases e with e | ⟨_, e⟩
      · omega
      · exact e.elim
    · rcases e with e | ⟨_, e⟩
      · rw [e]; exact blk_lt hb9
      · exact e.elim
  · refine (blk_cell hb9 _).trans ((dz_get _ hn hk).trans ?_)
    have hl : k < lz.length := hk
    dsimp only
    rw [List.getElem?_eq_getElem hl]
    rfl
  · rcases hi with e | e | ⟨_, e⟩
    · exact HC.out i e
    · omega
    · exact e.elim
end

section
open Go.RowKit

theorem klook_any (w : World) (g : CoK) (O C : Nat → Prop) (xb : Nat → Nat) (L : List AccE) (s : KSt) (i u n : Nat) (h : CoAt w g O C xb L s) (hi : i < 34) (hu : s.ws.getD i 0 = u) (hn : (s.hs.getD i []).length = n) :
    ∃ A c rs, CellsF w (XO C O) A (s.hs.getD i []) rs ∧ ∀ v, Ext w v → Calls Tryz.prog 164 #[ptrV g.gb, .int .i64 (i : Int)] v fun e w' => e = .returned (.tuple #[.int .u64 (u : Int), .slice A n c]) ∧ Ext v w' := by
  obtain ⟨Fm, hm, hwl, b0, b1, hh, -⟩ := h.swap
  obtain ⟨A, c, rs, g0, hE⟩ := hh i hi
  have hx : s.ws[i]? = some u := by rw [← hu]; exact getD_some (by rw [hwl]; exact hi)
  refine ⟨A, c, rs, hE, fun v y => ?_⟩
  have LD := Lib.hid (word_ok v Fm g.gm s.ws (s.clk : Int) L i u (hm.ext y) hx)
  have hi2 : (0 : Int) ≤ (i : Int) ∧ (i : Int) < ((34 : Nat) : Int) := ⟨by omega, by omega⟩
  have hi3 : (0 : Int) ≤ (i : Int) ∧ (i : Int) < 34 := ⟨by omega, by omega⟩
  rw [hn] at g0
  have d0 := ext_cell y b0; have d1 := ext_cell y b1; have d2 := ext_cell y g0
  clear h hm hE hh hx hwl hu hn g0 b0 b1 y
  go_enter Tryz.func164, Tryz.ntmps164
  go_wp2_with fail
  refine LD.out.mono ?_
  rintro e w1 ⟨rfl, rfl⟩
  go_wp2_with fail
  go_region
  go_wp2_with fail
  go_ret2
  exact ⟨ret_t2 rfl rfl, (Ext.refl v).drew⟩
theorem klevel_any (w : World) (g : CoK) (O C : Nat → Prop) (xb : Nat → Nat) (L : List AccE) (s : KSt) (u : Nat) (h : CoAt w g O C xb L s) (hu : s.ws.getD 0 0 = u) (hu9 : u ≤ 9) :
    Calls Tryz.prog 163 #[ptrV g.gl] w fun e w' => e = .returned (.tuple #[.int .i64 ((u / 2 : Nat) : Int), .bool (decide (u % 2 = 1))]) ∧ Ext w w' := by
  obtain ⟨A, c, rs, -, hlk⟩ := klook_any w g O C xb L s 0 u _ h (by omega) hu rfl
  have LK := Lib.hid (hlk w (Ext.refl w))
  have d0 := h.rd.l0
  clear h hu hlk
  have : u = 0 ∨ u = 1 ∨ u = 2 ∨ u = 3 ∨ u = 4 ∨ u = 5 ∨ u = 6 ∨ u = 7 ∨ u = 8 ∨ u = 9 := by omega
  rcases this with rfl | rfl | rfl | rfl | rfl | rfl | rfl | rfl | rfl | rfl
  all_goals
    go_enter Tryz.func163, Tryz.ntmps163
    go_wp2_with fail
    refine LK.out.mono ?_
    rintro e w1 ⟨rfl, hx⟩
    have HX := Lib.hid hx
    clear hx
    go_wp2_with fail
    go_ret2
    exact ⟨ret_t2 rfl rfl, HX.out⟩
/-- lists of cells in a row -/
def AllIs (w : World) (X : Nat → Prop) (hv : List Value) (ll : List (List PCell)) : Prop := hv.length = ll.length ∧ ∀ (i : Nat) (l : List PCell), ll[i]? = some l → ∃ A c rs, hv[i]? = some (.slice A l.length c) ∧ CellsF w X A l rs
theorem AllIs.nil (w : World) (X : Nat → Prop) : AllIs w X [] [] := ⟨rfl, fun i l h => by simp at h⟩
theorem AllIs.snoc {w : World} {X : Nat → Prop} {hv : List Value} {ll : List (List PCell)} {l : List PCell} {A : Option Addr} {c : Nat} {rs : List CRef} (h : AllIs w X hv ll) (hc : CellsF w X A l rs) : AllIs w X (hv ++ [.slice A l.length c]) (ll ++ [l]) := by
  refine ⟨by rw [List.length_append, List.length_append, h.1]; rfl, fun i l' hl => ?_⟩
  rcases Nat.lt_or_ge i ll.length with hi | hi
  · rw [List.getElem?_append_left hi] at hl
    rw [List.getElem?_append_left (by rw [h.1]; exact hi)]
    exact h.2 i l' hl
  · rw [List.getElem?_append_right hi] at hl
    rw [List.getElem?_append_right (by rw [h.1]; exact hi), h.1]
    have h0 : i - ll.length = 0 := by
      rcases Nat.eq_zero_or_pos (i - ll.length) with e | e
      · exact e
      · rw [List.getElem?_eq_none (by simp only [List.length_cons, List.length_nil]; omega)] at hl
        cases hl
    rw [h0] at hl ⊢
    injection hl with hl
    subst hl
    exact ⟨A, c, rs, rfl, hc⟩
theorem cc_info : (Tryz.prog.info? 56).map (fun i => (i.zero, i.size, i.bytes)) = some (some (.slice none 0 0), 1, 24) := by kernel_rfl
theorem app_cc {ops : Array Oper} {rest : List Oper} {o : Oper} {a : Act} {Q : Exit → Act → World → Prop} (w : World) (hgd : o.guard = none) (s x : Operand)
    (ho : o.op = .call { callee := .builtin .append, args := #[s, x], argTypes := #[209, 209] })
    (base : Nat) {B : Option Addr} {n cb : Nat} {xs : List Value} (hs : a.eval s = .slice B n cb) (hown : w.ownsRow base 56 1 (.slice B n cb) n xs)
    {A : Option Addr} {c : Nat} {u : Value} (hx : a.eval x = .slice A 1 c) (hr : Rd w A [u]) (hu : u.oneCell' = true) (hb : n ≤ 100000) (hbase : base ≤ w.heap.size)
    (h : ∀ B' cb' w', w'.ownsRow base 56 1 (.slice B' (n + 1) cb') (n + 1) (xs ++ [u]) → w.grownBy w' (Value.slice B n cb).ownBlock →
      ((Value.slice B' (n + 1) cb').ownBlock = (Value.slice B n cb).ownBlock ∨ (Value.slice B' (n + 1) cb').ownBlock = some w.heap.size) → wpList Tryz.prog ops Q rest (a.put o.dst (.slice B' (n + 1) cb')) w') :
    wpList Tryz.prog ops Q (o :: rest) a w := by
  obtain ⟨i0, hi, hz0, hz1, hz2⟩ := info_parts cc_info
  exact wpList_append_rd w hgd s x 209 ho base 56 Tryz.underlying209 hi hz0 hz1 hz2 rfl (by decide) hs hown hx (m := 1) (news := [u]) rfl hr (by intro v hv; simp at hv; rw [hv]; exact hu) (by unfold maxLen; omega) (by omega) hbase h
def allE (s : KSt) (lv k : Nat) : List (List PCell) := (List.range k).map fun i => s.hs.getD (placeK lv i) []
set_option maxHeartbeats 2000000 in
set_option maxRecDepth 100000 in
theorem kall_even (w : World) (g : CoK) (O C : Nat → Prop) (xb : Nat → Nat) (L : List AccE) (s : KSt) (lv : Nat) (h : CoAt w g O C xb L s) (hu : s.ws.getD 0 0 = 2 * lv) (hlv : lv ≤ 4) :
    Calls Tryz.prog 117 #[ptrV g.gl] w fun e w' => ∃ B cb hv, e = .returned (.slice B (2 ^ lv) cb) ∧ w'.ownsRow w.heap.size 56 1 (.slice B (2 ^ lv) cb) (2 ^ lv) hv ∧ AllIs w (XO C O) hv (allE s lv (2 ^ lv)) ∧ Ext w w' := by
  have LV := Lib.hid (klevel_any w g O C xb L s (2 * lv) h hu (by omega))
  have e1 : 2 * lv / 2 = lv := by omega
  have e2 : decide (2 * lv % 2 = 1) = false := decide_eq_false (by omega)
  rw [e1, e2] at LV
  obtain ⟨N, hN⟩ : ∃ N, 2 ^ lv = N := ⟨_, rfl⟩
  have hN16 : N ≤ 16 := by
    have : lv = 0 ∨ lv = 1 ∨ lv = 2 ∨ lv = 3 ∨ lv = 4 := by omega
    rw [← hN]
    rcases this with rfl | rfl | rfl | rfl | rfl <;> omega
  have hpw := pow_wrap hlv
  rw [hN] at hpw
  have HPW := Lib.hid hpw
  have hl0 : (0 : Int) ≤ (lv : Int) := by omega
  rw [hN]
  have H := Lib.hid h; have HN := Lib.hid hN
  have d0 := h.rd.l0
  clear h hu e1 e2 hpw hN
  go_enter Tryz.func117, Tryz.ntmps117
  go_wp2_with fail
  refine LV.out.mono ?_
  rintro e w1 ⟨rfl, hx⟩
  have X1 := Lib.hid hx
  clear hx
  go_wp2_with fail
  (try rw [HPW.out])
  clear HPW
  go_loopw [3, 20] (fun v3 v20 wr => ∃ (k : Nat) (B : Option Addr) (cb : Nat) (hv : List Value), k ≤ N ∧ v3 = .slice B k cb ∧ v20 = .int .i64 (k : Int) ∧ wr.ownsRow w.heap.size 56 1 (.slice B k cb) k hv ∧ AllIs w (XO C O) hv (allE s lv k) ∧ Ext w wr) (fun _ v20 _ => N - (intOf v20).toNat)
  case atStart => exact ⟨0, none, 0, [], Nat.zero_le _, rfl, rfl, World.ownsRow_nil _ _ _ _, AllIs.nil _ _, X1.out⟩
  case round =>
    obtain ⟨k, B, cb, hv, hk, rfl, rfl, ho, ha, hx⟩ := hrel
    have HO := Lib.hid ho; have HA := Lib.hid ha; have HX := Lib.hid hx
    clear ho ha hx
    by_cases hlt : k < N
    · have hki : (k : Int) < (N : Int) := by omega
      have hcv : IntKind.u64.wrap (k : Int) = (k : Int) := by rw [IntKind.wrap_u64]; omega
      have hadd : IntKind.i64.wrap ((k : Int) + 1) = ((k + 1 : Nat) : Int) := by rw [IntKind.wrap_i64]; omega
      have PL := Lib.hid (fun w => place_any lv k w (by omega) (by omega))
      have hp := placeK_lt lv k (by omega)
      obtain ⟨pl, Hp⟩ : ∃ p, Hid (placeK lv k = p) := ⟨_, rfl⟩
      rw [Hp.out] at PL hp
      obtain ⟨A, c, rs, hcf, hlk⟩ := klook_any w g O C xb L s pl _ _ H.out (by omega) rfl rfl
      obtain ⟨u, Hu⟩ : ∃ u, Hid (s.ws.getD pl 0 = u) := ⟨_, rfl⟩
      obtain ⟨m, Hm⟩ : ∃ m, Hid ((s.hs.getD pl []).length = m) := ⟨_, rfl⟩
      rw [Hu.out, Hm.out] at hlk
      have LK := Lib.hid hlk; have HCF := Lib.hid hcf
      have d1 := ext_cell HX.out d0
      clear hcf hlk hp d0
      go_upto_region 6 with fail
      go_region_held3 (fun w' => w'.cell? ⟨g.gl, 0, none⟩ = some (ptrV g.gb))
        (((try go_split_ands); exact (by first | (with_reducible exact drew_cell d1) | (with_reducible exact d1) | (with_reducible exact td1) | (with_reducible exact drew_cell td1) | (with_reducible assumption) | (with_reducible exact cell_past td1 _) | (with_reducible exact drew_cell (cell_past d1 _)))))
        (first
          | (go_at_call 81; (with_reducible refine (PL.out _).mono ?_); rintro e w2 ⟨rfl, rfl⟩)
          | (go_at_call 164; (with_reducible refine (LK.out _ (HX.out.trans (by first | (with_reducible exact Ext.refl _) | (with_reducible exact (Ext.refl _).drew)))).mono ?_); rintro e w2 ⟨rfl, hx⟩; have X2 := Lib.hid (HX.out.trans ((show Ext wr _ from by first | (with_reducible exact Ext.refl _) | (with_reducible exact (Ext.refl _).drew)).trans hx)); have X3 := Lib.hid ((show Ext wr _ from by first | (with_reducible exact Ext.refl _) | (with_reducible exact (Ext.refl _).drew)).trans hx); have td1 := ext_cell X3.out d1; clear hx))
      all_goals
        go_upto_region 8 with fail
        have XB : Ext wr (w2.alloc (.cells #[.slice A m c] 56)) := X3.out.alloc _
        have XBw : Ext w (w2.alloc (.cells #[.slice A m c] 56)) := HX.out.trans XB
        have HXB := Lib.hid XB; have HXW := Lib.hid XBw
        have k16 : k ≤ 100000 := by omega
        clear XB XBw
        go_wp2_with (at_builtin; refine app_cc (w2.alloc (.cells #[.slice A m c] 56)) rfl (.tmp 41) (.tmp 43) rfl w.heap.size rfl (own_ext HO.out HXB.out) rfl (rd_newk w2 [.slice A m c] _ rfl) rfl k16 HXW.out.size ?_; intro B' cb' w6 o6 g6 b6; have O6 := Lib.hid o6; have G6 := Lib.hid (HXW.out.grown g6 (fun q e => (HO.out.lt q e).1)); clear o6 g6 b6)
        go_roundw
        case rel =>
          refine ⟨k + 1, B', cb', hv ++ [.slice A m c], hlt, rfl, by go_num, O6.out, ?_, G6.out⟩
          have := HA.out.snoc (c := c) HCF.out
          rw [Hm.out, ← Hp.out] at this
          unfold allE at this ⊢
          rw [List.range_succ, List.map_append]
          exact this
        case measure => simp [intOf]; omega
    · have hki : ¬ (k : Int) < (N : Int) := by omega
      obtain rfl : k = N := by omega
      go_wp2_with fail
      go_ret
      exact ⟨B, cb, rfl, hv, HO.out, HA.out, HX.out⟩
end

section
open Go.RowKit

/-- cells of one's own, in new memory -/
def CellsNew (w : World) (base : Nat) (A : Option Addr) (n c : Nat) (l : List PCell) (rs : List CRef) : Prop :=
  rs.length = l.length ∧ l.length = n ∧ w.ownsRow base 62 4 (.slice A n c) n (cellsV rs l) ∧ ∀ (i : Nat) (r : CRef) (e : PCell), rs[i]? = some r → l[i]? = some e → PartsRd w r e ∧
    (∀ a, r.K = some a → base ≤ a.block ∧ a.block < w.heap.size ∧ (Value.slice A n c).ownBlock ≠ some a.block) ∧ (∀ a, r.H = some a → base ≤ a.block ∧ a.block < w.heap.size ∧ (Value.slice A n c).ownBlock ≠ some a.block)
theorem CellsNew.nil (w : World) (base : Nat) : CellsNew w base none 0 0 [] [] := ⟨rfl, rfl, World.ownsRow_nil _ _ _ _, fun i r e h => by simp at h⟩
theorem CellsNew.ext {w w' : World} {base : Nat} {A : Option Addr} {n c : Nat} {l : List PCell} {rs : List CRef} (h : CellsNew w base A n c l rs) (x : Ext w w') : CellsNew w' base A n c l rs :=
  ⟨h.1, h.2.1, own_ext h.2.2.1 x, fun i r e h1 h2 => by
    obtain ⟨a, b, d⟩ := h.2.2.2 i r e h1 h2
    exact ⟨a.ext x, fun p hp => ⟨(b p hp).1, Nat.lt_of_lt_of_le (b p hp).2.1 x.size, (b p hp).2.2⟩, fun p hp => ⟨(d p hp).1, Nat.lt_of_lt_of_le (d p hp).2.1 x.size, (d p hp).2.2⟩⟩⟩
theorem CellsNew.rd {w : World} {base : Nat} {A : Option Addr} {n c : Nat} {l : List PCell} {rs : List CRef} (h : CellsNew w base A n c l rs) : CellsRd w A l rs := ⟨h.1, rd_of_own_s h.2.2.1, fun i r e h1 h2 => (h.2.2.2 i r e h1 h2).1⟩
theorem cellsV_app {rs rs' : List CRef} {l l' : List PCell} (h : rs.length = l.length) : cellsV (rs ++ rs') (l ++ l') = cellsV rs l ++ cellsV rs' l' := zipG_app cellV h
/-- more of them, whose parts are new and not in the row's own block -/
theorem CellsNew.more {w w5 w6 : World} {base k c m cb : Nat} {A B : Option Addr} {l l' : List PCell} {rs rs' : List CRef} (h : CellsNew w base A k c l rs) (x5 : Ext w w5) (hm : l'.length = m) (hl : rs'.length = l'.length)
    (hp : ∀ (i : Nat) (r : CRef) (e : PCell), rs'[i]? = some r → l'[i]? = some e → PartsRd w5 r e ∧ (∀ a, r.K = some a → base ≤ a.block ∧ a.block < w5.heap.size ∧ (Value.slice A k c).ownBlock ≠ some a.block) ∧ (∀ a, r.H = some a → base ≤ a.block ∧ a.block < w5.heap.size ∧ (Value.slice A k c).ownBlock ≠ some a.block))
    (o6 : w6.ownsRow base 62 4 (.slice B (k + m) cb) (k + m) (cellsV rs l ++ cellsV rs' l')) (g6 : w5.grownBy w6 (Value.slice A k c).ownBlock)
    (b6 : (Value.slice B (k + m) cb).ownBlock = (Value.slice A k c).ownBlock ∨ (Value.slice B (k + m) cb).ownBlock = some w5.heap.size) : CellsNew w6 base B (k + m) cb (l ++ l') (rs ++ rs') := by
  have g : GB w5 w6 (fun i => (Value.slice A k c).ownBlock = some i) := (GB.refl w5 _).grown g6 (fun q e => .inl e)
  have nb : ∀ q, q < w5.heap.size → (Value.slice A k c).ownBlock ≠ some q → (Value.slice B (k + m) cb).ownBlock ≠ some q := fun q hq hn e => by
    rcases b6 with b | b
    · exact hn (b ▸ e)
    · rw [b] at e; injection e with e; omega
  obtain ⟨h1, h2, h3, h4⟩ := h
  refine ⟨by rw [List.length_append, List.length_append, h1, hl], by rw [List.length_append, h2, hm], by rw [cellsV_app h1]; exact o6, fun i r e hr he => ?_⟩
  have key : ∀ {r : CRef} {e : PCell}, (PartsRd w5 r e ∧ (∀ a, r.K = some a → base ≤ a.block ∧ a.block < w5.heap.size ∧ (Value.slice A k c).ownBlock ≠ some a.block) ∧ (∀ a, r.H = some a → base ≤ a.block ∧ a.block < w5.heap.size ∧ (Value.slice A k c).ownBlock ≠ some a.block)) →
      PartsRd w6 r e ∧ (∀ a, r.K = some a → base ≤ a.block ∧ a.block < w6.heap.size ∧ (Value.slice B (k + m) cb).ownBlock ≠ some a.block) ∧ (∀ a, r.H = some a → base ≤ a.block ∧ a.block < w6.heap.size ∧ (Value.slice B (k + m) cb).ownBlock ≠ some a.block) := fun {r e} ⟨p1, p2, p3⟩ =>
    ⟨⟨p1.1, g.rd p1.2.1 (fun a ha e => (p2 a ha).2.2 e), p1.2.2.1, g.rd p1.2.2.2 (fun a ha e => (p3 a ha).2.2 e)⟩, fun a ha => ⟨(p2 a ha).1, Nat.lt_of_lt_of_le (p2 a ha).2.1 g.size, nb _ (p2 a ha).2.1 (p2 a ha).2.2⟩, fun a ha => ⟨(p3 a ha).1, Nat.lt_of_lt_of_le (p3 a ha).2.1 g.size, nb _ (p3 a ha).2.1 (p3 a ha).2.2⟩⟩
  rcases Nat.lt_or_ge i l.length with hi | hi
  · rw [List.getElem?_append_left (by rw [h1]; exact hi)] at hr
    rw [List.getElem?_append_left hi] at he
    obtain ⟨k1, k2, k3⟩ := h4 i r e hr he
    exact key ⟨k1.ext x5, fun a ha => ⟨(k2 a ha).1, Nat.lt_of_lt_of_le (k2 a ha).2.1 x5.size, (k2 a ha).2.2⟩, fun a ha => ⟨(k3 a ha).1, Nat.lt_of_lt_of_le (k3 a ha).2.1 x5.size, (k3 a ha).2.2⟩⟩
  · rw [List.getElem?_append_right (by rw [h1]; exact hi)] at hr
    rw [List.getElem?_append_right hi] at he
    rw [h1] at hr
    exact key (hp _ r e hr he)
theorem step_app_cell {ops : Array Oper} {o : Oper} {a : Act} {K : Act → World → Prop} {Q : Exit → Act → World → Prop} {E : Prop} (w : World) (hgd : o.guard = none) (s x : Operand)
    (ho : o.op = .call { callee := .builtin .append, args := #[s, x], argTypes := #[56, 56] })
    (base : Nat) {B : Option Addr} {n cb : Nat} {xs : List Value} (hs : a.eval s = .slice B n cb) (hown : w.ownsRow base 62 4 (.slice B n cb) n xs)
    {A : Option Addr} {c : Nat} {y z u v : Value} (hx : a.eval x = .slice A 1 c) (hr : Rd w A [y, z, u, v]) (hy : y.oneCell' = true) (hz : z.oneCell' = true) (hu : u.oneCell' = true) (hv : v.oneCell' = true) (hb : n ≤ 100000) (hbase : base ≤ w.heap.size)
    (h : ∀ B' cb' w', w'.ownsRow base 62 4 (.slice B' (n + 1) cb') (n + 1) (xs ++ [y, z, u, v]) → w.grownBy w' (Value.slice B n cb).ownBlock →
      ((Value.slice B' (n + 1) cb').ownBlock = (Value.slice B n cb).ownBlock ∨ (Value.slice B' (n + 1) cb').ownBlock = some w.heap.size) → K (a.put o.dst (.slice B' (n + 1) cb')) w') :
    if Region.wanted o (yielded ops a.tmps) = true then Oper.wp Tryz.prog o a w K Q else E := by
  have hw : Region.wanted o (yielded ops a.tmps) = true := by simp [Region.wanted, hgd]
  rw [if_pos hw]
  obtain ⟨i0, hi, hz0, hz1, hz2⟩ := info_parts ce_info
  exact wp_append_rd w s x 56 ho base 62 Tryz.underlying56 hi hz0 hz1 hz2 rfl (by decide) hs hown hx (m := 1) (news := [y, z, u, v]) rfl hr (by intro q hq; simp at hq; rcases hq with rfl | rfl | rfl | rfl <;> assumption) (by unfold maxLen; omega) (by omega) hbase h
def CopyR (l : List PCell) (w : World) (e : Ending) (w' : World) : Prop := ∃ A c rs, e = .returned (.slice A l.length c) ∧ CellsNew w' w.heap.size A l.length c l rs ∧ Ext w w'
set_option maxHeartbeats 4000000 in
set_option maxRecDepth 100000 in
theorem bcopy_any (w : World) (X : Nat → Prop) (A : Option Addr) (n c : Nat) (l : List PCell) (rs : List CRef) (hC : CellsF w X A l rs) (hl : l.length = n) (hn : n ≤ 5000) (hkl : ∀ e ∈ l, e.key.length ≤ 5000 ∧ e.held.length ≤ 5000) :
    Calls Tryz.prog 118 #[.slice A n c] w (CopyR l w) := by
  have HE := Lib.hid hC.1; have Hn := Lib.hid hl; have HK := Lib.hid hkl
  clear hC hl hkl
  go_enter Tryz.func118, Tryz.ntmps118
  go_wp2_with fail
  go_loopw [3, 8] (fun v i wr => ∃ (k : Nat) (B : Option Addr) (cb : Nat) (kk : List CRef), k ≤ n ∧ i = .int .i64 (k : Int) ∧ v = .slice B k cb ∧ CellsNew wr w.heap.size B k cb (l.take k) kk ∧ Ext w wr) (fun _ i _ => n - (intOf i).toNat)
  case atStart => exact ⟨0, none, 0, [], Nat.zero_le _, rfl, rfl, CellsNew.nil _ _, Ext.refl w⟩
  case round =>
    obtain ⟨k, B, cb, kk, hk, rfl, rfl, hN, hx⟩ := hrel
    by_cases hlt : k < n
    · obtain ⟨e, he⟩ : ∃ e, l[k]? = some e := ⟨_, List.getElem?_eq_getElem (by rw [Hn.out]; exact hlt)⟩
      obtain ⟨b, off, r, hA, hks, d0, d1, d2, d3, hpr⟩ := (HE.out.ext hx).at_ he
      have hok := HK.out e (List.mem_of_getElem? he)
      obtain ⟨p, x, v, hd⟩ := e
      obtain ⟨K, kc, HD, hc⟩ := r
      obtain ⟨hkc, hkr, hhc, hhr⟩ := hpr
      dsimp only at d0 d1 d2 d3 hkc hkr hhc hhr hok
      subst hA
      obtain ⟨m, Hm⟩ : ∃ m, Hid (x.length = m) := ⟨_, rfl⟩
      obtain ⟨q, Hq⟩ : ∃ q, Hid (hd.length = q) := ⟨_, rfl⟩
      rw [Hm.out] at d1 hkc hok
      rw [Hq.out] at d3 hhc hok
      have HT := Lib.hid (take_succ_of he)
      have HN := Lib.hid hN; have HX := Lib.hid hx
      have hsz : w.heap.size ≤ wr.heap.size := hx.size
      obtain ⟨W, hW⟩ : ∃ W, wr.alloc (.cells #[.int .i64 (p : Int), .slice K m kc, .int .i64 v, .slice HD q hc] 62) = W := ⟨_, rfl⟩
      have xW : Ext wr W := by rw [← hW]; exact (Ext.refl wr).alloc _
      have KB := Lib.hid (show W.heap[wr.heap.size]? = some (.cells #[.int .i64 (p : Int), .slice K m kc, .int .i64 v, .slice HD q hc] 62 (0, 0)) by rw [← hW]; exact blk_new wr _)
      have CL := Lib.hid (fun u (y : Ext W u) => kbclone_any K m kc x u Hm.out (by omega) (hkr.ext (xW.trans y)))
      have CI := Lib.hid (fun u (y : Ext W u) => iclone_any HD q hc hd u Hq.out (by omega) (hhr.ext (xW.trans y)))
      have XW := Lib.hid xW
      have NW := Lib.hid (hN.ext xW)
      have hWs : wr.heap.size ≤ W.heap.size := xW.size
      clear he hok hkr hhr hN hx xW hks hkc hhc
      go_upto_region 5 with fail
      (try rw [hW])
      clear hW d0 d1 d2 d3
      have e0 : W.cell? ⟨wr.heap.size, 0, none⟩ = some (.int .i64 (p : Int)) := blk_cell KB.out 0
      have e1 : W.cell? ⟨wr.heap.size, 1, none⟩ = some (.slice K m kc) := blk_cell KB.out 1
      have e2 : W.cell? ⟨wr.heap.size, 2, none⟩ = some (.int .i64 v) := blk_cell KB.out 2
      have e3 : W.cell? ⟨wr.heap.size, 3, none⟩ = some (.slice HD q hc) := blk_cell KB.out 3
      have NE := Lib.hid (show (Value.slice B k cb).ownBlock ≠ some wr.heap.size from fun e => Nat.lt_irrefl _ (HN.out.2.2.1.lt _ e).2)
      have HS := Lib.hid (fun (w' : World) (hE : Ext W w') => (⟨ext_cell hE e0, ext_cell hE e1, ext_cell hE e2, ext_cell hE e3⟩ : w'.cell? ⟨wr.heap.size, 0, none⟩ = some (.int .i64 (p : Int)) ∧ w'.cell? ⟨wr.heap.size, 1, none⟩ = some (.slice K m kc) ∧ w'.cell? ⟨wr.heap.size, 2, none⟩ = some (.int .i64 v) ∧ w'.cell? ⟨wr.heap.size, 3, none⟩ = some (.slice HD q hc)))
      go_region_held3 (fun u => u.cell? ⟨wr.heap.size, 0, none⟩ = some (.int .i64 (p : Int)) ∧ u.cell? ⟨wr.heap.size, 1, none⟩ = some (.slice K m kc) ∧ u.cell? ⟨wr.heap.size, 2, none⟩ = some (.int .i64 v) ∧ u.cell? ⟨wr.heap.size, 3, none⟩ = some (.slice HD q hc))
        (((try go_split_ands); first | (with_reducible exact HS.out _ (Ext.refl _)) | (with_reducible exact HS.out _ (Ext.refl _).drew) | (with_reducible exact HS.out _ X4.out) | (with_reducible exact HS.out _ X5.out) | (with_reducible exact HS.out _ (X5.out.alloc _)) | (with_reducible exact ⟨g6.cell (ext_cell (X5.out.alloc _) e0) NE.out.symm, g6.cell (ext_cell (X5.out.alloc _) e1) NE.out.symm, g6.cell (ext_cell (X5.out.alloc _) e2) NE.out.symm, g6.cell (ext_cell (X5.out.alloc _) e3) NE.out.symm⟩)))
        (first
          | (go_at_call 67; (with_reducible refine (CL.out _ (by first | exact Ext.refl W | exact (Ext.refl W).drew)).mono ?_); rintro e w4 ⟨A4, c4, rfl, ho4, x4⟩; rw [Hm.out] at ho4 ⊢; have HO4 := Lib.hid ho4; have X4 := Lib.hid ((show Ext W _ from by first | exact Ext.refl W | exact (Ext.refl W).drew).trans x4); clear ho4 x4)
          | (go_at_call 165; (with_reducible refine (CI.out _ X4.out).mono ?_); rintro e w5 ⟨A5, c5, rfl, ho5, x5⟩; rw [Hq.out] at ho5 ⊢; have HO5 := Lib.hid ho5; have X45 := Lib.hid x5; have X5 := Lib.hid (X4.out.trans x5); clear ho5 x5)
          | (refine step_app_cell (w5.alloc (.cells #[.int .i64 (p : Int), .slice A4 m c4, .int .i64 v, .slice A5 q c5] 62)) rfl (.tmp 12) (.tmp 24) rfl w.heap.size (by rfl) (own_ext NW.out.2.2.1 (X5.out.alloc _)) (by rfl) (show Rd _ _ _ from rd_newk w5 [.int .i64 (p : Int), .slice A4 m c4, .int .i64 v, .slice A5 q c5] _ rfl) rfl rfl rfl rfl (by omega) (Nat.le_trans (Nat.le_trans hsz hWs) (X5.out.alloc _).size) ?_; intro B' cb' w6 o6 g6 b6))
      all_goals
        have x6 : Ext w w6 := ((HX.out.trans XW.out).trans (X5.out.alloc _)).grown g6 (fun q e => (HN.out.2.2.1.lt q e).1)
        go_wp2_with fail
        go_roundw
        case rel =>
          refine ⟨k + 1, B', cb', kk ++ [⟨A4, c4, A5, c5⟩], hlt, by go_num, rfl, ?_, x6⟩
          rw [HT.out]
          have ev : cellsV [⟨A4, c4, A5, c5⟩] [(⟨p, x, v, hd⟩ : PCell)] = [.int .i64 (p : Int), .slice A4 m c4, .int .i64 v, .slice A5 q c5] := by simp [cellsV, cellV, Hm.out, Hq.out]
          refine NW.out.more (m := 1) (X5.out.alloc _) rfl rfl (fun i r e hr he => ?_) (by rw [ev]; exact o6) g6 b6
          have hi : i = 0 := by
            have := (List.getElem?_eq_some_iff.1 hr).1
            simp at this
            exact this
          subst hi
          simp at hr he
          subst hr he
          have hlt9 := HN.out.2.2.1.lt
          have hs5 := ((Ext.refl w5).alloc (.cells #[.int .i64 (p : Int), .slice A4 m c4, .int .i64 v, .slice A5 q c5] 62)).size
          refine ⟨⟨by rw [Hm.out]; exact own_cap HO4.out, ((Rd.of_own HO4.out).ext X45.out).alloc _, by rw [Hq.out]; exact own_cap HO5.out, (rd_of_own_s HO5.out).alloc _⟩, fun a ha => ?_, fun a ha => ?_⟩
          · obtain ⟨a1, a2, -⟩ := own_at_ge HO4.out a ha
            have a1 : W.heap.size ≤ a.block := a1
            refine ⟨by omega, by have := X45.out.size; omega, fun e => ?_⟩
            have := (hlt9 _ e).2
            omega
          · obtain ⟨a1, a2, -⟩ := own_at_ge HO5.out a ha
            have a1 : w4.heap.size ≤ a.block := a1
            have := X4.out.size
            refine ⟨by omega, by omega, fun e => ?_⟩
            have := (hlt9 _ e).2
            omega
        case measure => simp [intOf]; omega
    · obtain rfl : k = n := by omega
      go_wp2_with fail
      go_ret
      rw [List.take_of_length_le (by rw [Hn.out]; exact Nat.le_refl _)] at hN
      exact ⟨B, cb, kk, by rw [Hn.out]; rfl, by rw [Hn.out]; exact hN, hx⟩
end

section
open Go.Shelf

def lays125_ren : Go.Shelf.Ren := ⟨fun | 125 => 167 | 128 => 226 | 129 => 227 | n => n, fun | 46 => 111 | 3 => 3 | 51 => 352 | 53 => 52 | 4 => 4 | 5 => 5 | 9 => 9 | n => n, fun | n => n⟩
theorem lays125 : Go.Proofs.Lays.n125 Tryz.prog lays125_ren where
  mixed := by kernel_rfl
  f125 := Tryz.func167.trans (congrArg some (by kernel_rfl))
  f128 := Tryz.func226.trans (congrArg some (by kernel_rfl))
  f129 := Tryz.func227.trans (congrArg some (by kernel_rfl))
  t3 := Tryz.underlying3
  a3 := Tryz.isAgg3
  z3 := Tryz.sizeOf3
  v3 := Tryz.zeroValue3
  t4 := Tryz.underlying4
  a4 := Tryz.isAgg4
  z4 := Tryz.sizeOf4
  v4 := Tryz.zeroValue4
  t5 := Tryz.underlying5
  a5 := Tryz.isAgg5
  z5 := Tryz.sizeOf5
  v5 := Tryz.zeroValue5
  t9 := Tryz.underlying9
  a9 := Tryz.isAgg9
  z9 := Tryz.sizeOf9
  v9 := Tryz.zeroValue9
  t46 := Tryz.underlying111
  a46 := Tryz.isAgg111
  z46 := Tryz.sizeOf111
  v46 := Tryz.zeroValue111
  t51 := Tryz.underlying352
  a51 := Tryz.isAgg352
  z51 := Tryz.sizeOf352
  v51 := Tryz.zeroValue352
  t53 := Tryz.underlying52
  a53 := Tryz.isAgg52
  z53 := Tryz.sizeOf52
  v53 := Tryz.zeroValue52
open Go.RowKit in
theorem blen_any (x : Nat) (hx : x < 18446744073709551616) (w : World) :
    Calls Tryz.prog 167 #[.int .u64 (x : Int)] w fun e w' => (∃ l : Int, e = .returned (.int .i64 l)) ∧ w' = w := (Any.bits_Len lays125 x w (by omega) (by omega)).mono fun _ _ ⟨he, hw⟩ => ⟨⟨_, he⟩, hw⟩
open Go.RowKit

theorem ksort_few (A : Option Addr) (n c : Nat) (f : FuncId) (w : World) (hn : n ≤ 1) :
    Calls Tryz.prog 218 #[.slice A n c, .int .i64 0, .int .i64 (n : Int), fnV f #[]] w fun e w' => e = .returned (.tuple #[]) ∧ w = w' := by
  have h1 : ¬ (1 : Int) < (n : Int) := by omega
  clear hn
  go_enter Tryz.func218, Tryz.ntmps218
  go_wp2_with fail
  go_loopw [8] (fun v8 wr => v8 = .int .i64 1 ∧ wr = w) (fun _ _ => 0)
  case atStart => exact ⟨rfl, rfl⟩
  case round =>
    obtain ⟨rfl, rfl⟩ := hrel
    go_wp2_with fail
    go_end0
    exact ⟨rfl, rfl⟩
theorem kpdq_few (A : Option Addr) (n c : Nat) (l : Int) (f : FuncId) (w : World) (hn : n ≤ 1) :
    Calls Tryz.prog 166 #[.slice A n c, .int .i64 0, .int .i64 (n : Int), .int .i64 l, fnV f #[]] w fun e w' => e = .returned (.tuple #[]) ∧ w = w' := by
  have IS := Lib.hid (ksort_few A n c f w hn)
  have h1 : (n : Int) ≤ 12 := by omega
  have hw : IntKind.i64.wrap ((n : Int) - 0) = (n : Int) := by rw [IntKind.wrap_i64]; omega
  have hw2 : wrap64 (n : Int) = (n : Int) := by unfold wrap64; omega
  clear hn
  go_enter Tryz.func166, Tryz.ntmps166
  go_wp2_with fail
  go_loopw [1, 2, 3] (fun v1 v2 v3 wr => v1 = .int .i64 0 ∧ v2 = .int .i64 (n : Int) ∧ v3 = .int .i64 l ∧ wr = w) (fun _ _ _ _ => 0)
  case atStart => exact ⟨rfl, rfl, rfl, rfl⟩
  case round =>
    obtain ⟨rfl, rfl, rfl, rfl⟩ := hrel
    go_wp2_with fail
    refine IS.out.mono ?_
    rintro e w1 ⟨rfl, rfl⟩
    go_wp2_with fail
    (first | go_end0 | refine bodyPost_ret (results_none rfl _ _ _) rfl ?_)
    exact ⟨rfl, rfl⟩
theorem ksortf_few (A : Option Addr) (n c : Nat) (f : FuncId) (w : World) (hn : n ≤ 1) :
    Calls Tryz.prog 119 #[.slice A n c, fnV f #[]] w fun e w' => e = .returned (.tuple #[]) ∧ w = w' := by
  have BL := Lib.hid (blen_any n (by omega) w)
  have PD := Lib.hid (fun l => kpdq_few A n c l f w hn)
  have hw2 : IntKind.u64.wrap (n : Int) = (n : Int) := by rw [IntKind.wrap_u64]; omega
  clear hn
  go_enter Tryz.func119, Tryz.ntmps119
  go_wp2_with fail
  refine BL.out.mono ?_
  rintro e w1 ⟨⟨l, rfl⟩, rfl⟩
  go_wp2_with fail
  refine (PD.out l).mono ?_
  rintro e w1 ⟨rfl, rfl⟩
  go_wp2_with fail
  go_end0
  exact ⟨rfl, rfl⟩
theorem app_cl {ops : Array Oper} {rest : List Oper} {o : Oper} {a : Act} {Q : Exit → Act → World → Prop} (w : World) (hgd : o.guard = none) (s x : Operand)
    (ho : o.op = .call { callee := .builtin .append, args := #[s, x], argTypes := #[56, 56] })
    (base : Nat) {B : Option Addr} {n cb : Nat} {xs : List Value} (hs : a.eval s = .slice B n cb) (hown : w.ownsRow base 62 4 (.slice B n cb) n xs)
    {A : Option Addr} {m c : Nat} {news : List Value} (hx : a.eval x = .slice A m c) (hl : news.length = m * 4) (hr : Rd w A news) (h1 : ∀ v ∈ news, v.oneCell' = true) (hb : n + m ≤ 1000000) (hbase : base ≤ w.heap.size)
    (h : ∀ B' cb' w', w'.ownsRow base 62 4 (.slice B' (n + m) cb') (n + m) (xs ++ news) → w.grownBy w' (Value.slice B n cb).ownBlock →
      ((Value.slice B' (n + m) cb').ownBlock = (Value.slice B n cb).ownBlock ∨ (Value.slice B' (n + m) cb').ownBlock = some w.heap.size) → wpList Tryz.prog ops Q rest (a.put o.dst (.slice B' (n + m) cb')) w') :
    wpList Tryz.prog ops Q (o :: rest) a w := by
  obtain ⟨i0, hi, hz0, hz1, hz2⟩ := info_parts ce_info
  exact wpList_append_rd w hgd s x 56 ho base 62 Tryz.underlying56 hi hz0 hz1 hz2 rfl (by decide) hs hown hx hl hr h1 (by unfold maxLen; omega) (by omega) hbase h
theorem cellsV_one' (rs : List CRef) (l : List PCell) : ∀ v ∈ cellsV rs l, v.oneCell' = true := zipG_one cellV (fun r c => cellV_one r c) rs l
theorem cellsV_len (rs : List CRef) (l : List PCell) (h : rs.length = l.length) : (cellsV rs l).length = l.length * 4 := zipG_len cellV 4 cellV_len rs l h
theorem CellsNew.base {w : World} {base base' : Nat} {A : Option Addr} {n c : Nat} {l : List PCell} {rs : List CRef} (h : CellsNew w base A n c l rs) (hb : base' ≤ base) : CellsNew w base' A n c l rs :=
  ⟨h.1, h.2.1, own_base h.2.2.1 hb, fun i r e h1 h2 => by
    obtain ⟨a, b, d⟩ := h.2.2.2 i r e h1 h2
    exact ⟨a, fun p hp => ⟨Nat.le_trans hb (b p hp).1, (b p hp).2⟩, fun p hp => ⟨Nat.le_trans hb (d p hp).1, (d p hp).2⟩⟩⟩
/-- an append of cells that were copied behind it -/
theorem CellsNew.app {w w5 w6 : World} {base b5 k c m c5 cb : Nat} {A A5 B : Option Addr} {l l' : List PCell} {rs rs' : List CRef} (h : CellsNew w base A k c l rs) (x5 : Ext w w5) (h5 : CellsNew w5 b5 A5 m c5 l' rs') (hb5 : w.heap.size ≤ b5) (hbw : base ≤ w.heap.size)
    (o6 : w6.ownsRow base 62 4 (.slice B (k + m) cb) (k + m) (cellsV rs l ++ cellsV rs' l')) (g6 : w5.grownBy w6 (Value.slice A k c).ownBlock)
    (b6 : (Value.slice B (k + m) cb).ownBlock = (Value.slice A k c).ownBlock ∨ (Value.slice B (k + m) cb).ownBlock = some w5.heap.size) : CellsNew w6 base B (k + m) cb (l ++ l') (rs ++ rs') := by
  have hlt := h.2.2.1.lt
  refine h.more x5 h5.2.1 h5.1 (fun i r e hr he => ?_) o6 g6 b6
  obtain ⟨a, b, d⟩ := h5.2.2.2 i r e hr he
  exact ⟨a, fun p hp => ⟨by have := (b p hp).1; omega, (b p hp).2.1, fun e => by have := (hlt _ e).2; have := (b p hp).1; omega⟩, fun p hp => ⟨by have := (d p hp).1; omega, (d p hp).2.1, fun e => by have := (hlt _ e).2; have := (d p hp).1; omega⟩⟩
set_option maxHeartbeats 4000000 in
set_option maxRecDepth 100000 in
theorem kcells_few (w : World) (g : CoK) (O C : Nat → Prop) (xb : Nat → Nat) (L : List AccE) (s : KSt) (h : CoAt w g O C xb L s) (hu : s.ws.getD 0 0 = 0) (l : List PCell) (hl : s.hs.getD 1 [] = l) (hl1 : l.length ≤ 1) (hkl : ∀ e ∈ l, e.key.length ≤ 5000 ∧ e.held.length ≤ 5000) :
    Calls Tryz.prog 70 #[ptrV g.gx] w (CopyR l w) := by
  have AL := Lib.hid (kall_even w g O C xb L s 0 h hu (by omega))
  have c2 := h.rd.c2
  have HL := Lib.hid hl; have HK := Lib.hid hkl
  clear h hu hl hkl
  go_enter Tryz.func70, Tryz.ntmps70
  go_wp2_with fail
  refine AL.out.mono ?_
  rintro e w1 ⟨B, cb, hv, rfl, ho, ha, hx⟩
  have ea : allE s 0 (2 ^ 0) = [l] := by
    unfold allE
    rw [← HL.out]
    rfl
  rw [ea] at ha
  obtain ⟨A, c, rs, e0, hcf⟩ := ha.2 0 l rfl
  have hv1 : hv = [.slice A l.length c] := by
    have := ha.1
    match hv, this with
    | [v], _ => simp at e0; rw [e0]
  subst hv1
  obtain ⟨n, Hn⟩ : ∃ n, Hid (l.length = n) := ⟨_, rfl⟩
  rw [Hn.out] at ho hl1
  have hrd := rd_of_own_s ho
  obtain ⟨bb, off, hB, hc⟩ := hrd (by simp)
  have d0 : w1.cell? ⟨bb, off, none⟩ = some (.slice A n c) := by have := hc 0 _ rfl; rw [Nat.add_zero] at this; exact this
  subst hB
  have CP := Lib.hid (fun u (y : Ext w1 u) => bcopy_any u (XO C O) A n c l rs (hcf.ext (hx.trans y)) Hn.out (by omega) HK.out)
  have SF := Lib.hid (fun B q d u (hq : q ≤ 1) => ksortf_few B q d 120 u hq)
  have X1 := Lib.hid hx
  clear ho ha hx e0 hcf hrd hc
  go_wp2_with fail
  go_loopw [3, 14] (fun v3 v14 wr => ∃ (k q : Nat) (B : Option Addr) (cb : Nat) (kk : List CRef), k ≤ 1 ∧ v14 = .int .i64 (k : Int) ∧ v3 = .slice B q cb ∧ Ext w1 wr ∧ CellsNew wr w1.heap.size B q cb (if k = 0 then [] else l) kk ∧ (k = 0 → q = 0)) (fun _ i _ => 1 - (intOf i).toNat)
  case atStart => exact ⟨0, 0, none, 0, [], by omega, rfl, rfl, Ext.refl w1, CellsNew.nil _ _, fun _ => rfl⟩
  case round =>
    obtain ⟨k, q, B, cb', kk, hk, rfl, rfl, hx, hN, hk0⟩ := hrel
    have HX := Lib.hid hx
    by_cases h0 : k = 0
    · subst h0
      obtain rfl := hk0 rfl
      rw [if_pos rfl] at hN
      have HN := Lib.hid hN
      have e0 := ext_cell hx d0
      clear hN hx hk0 hk
      go_upto_region 7 with fail
      go_wp2_with fail
      refine (CP.out _ HX.out).mono ?_
      rintro e w5 ⟨A5, c5, rs5, rfl, h5, x5⟩
      rw [Hn.out] at h5 ⊢
      have H5 := Lib.hid h5; have X5 := Lib.hid x5
      have hn9 : 0 + n ≤ 1000000 := by omega
      have hsz := (HX.out.trans x5).size
      clear h5 x5 e0
      go_wp2_with (at_builtin; refine app_cl w5 rfl (.tmp 18) (.tmp 20) rfl w1.heap.size rfl (own_ext HN.out.2.2.1 X5.out) rfl (by rw [cellsV_len _ _ H5.out.1, Hn.out]) (rd_of_own_s H5.out.2.2.1) (cellsV_one' _ _) hn9 hsz ?_; intro B6 cb6 w6 o6 g6 b6; have N6 := Lib.hid (HN.out.app X5.out H5.out (Nat.le_refl _) HX.out.size o6 g6 b6); have X6 := Lib.hid ((HX.out.trans X5.out).grown g6 (fun q e => (HN.out.2.2.1.lt q e).1)); clear o6 g6 b6)
      go_roundw
      case rel => exact ⟨1, n, B6, cb6, _, Nat.le_refl _, by go_num, rfl, X6.out, by have := N6.out; rw [Nat.zero_add] at this; exact this, fun e => by omega⟩
      case measure => simp [intOf]
    · obtain rfl : k = 1 := by omega
      rw [if_neg (by omega)] at hN
      have hqn : q = n := by rw [← hN.2.1]; exact Hn.out
      subst hqn
      have HN := Lib.hid hN
      clear hN hk0 hx
      go_wp2_with fail
      refine (SF.out _ _ _ _ hl1).mono ?_
      rintro e w6 ⟨rfl, rfl⟩
      go_wp2_with fail
      go_ret
      have hz := X1.out.size
      refine ⟨B, cb', kk, by rw [Hn.out]; rfl, ?_, X1.out.trans HX.out⟩
      rw [Hn.out]
      exact HN.out.base hz
end
end Go.Proofs.YtloidkmphigbdaaGreat
