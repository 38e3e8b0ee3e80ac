/- shard: what a pending call's function leaves; begin's functions. -/
import Derived.Test.YtlgggeeflomelaaShC
namespace Go.Proofs.Ytlgggeeflomelaa
open Go.RowKit

/-- what a pending call's function leaves: the next function is v, and not yet stored -/
def SClo (w : World) (C F : Nat → Prop) (gx gb who N : Nat) (s : SSt) (cl : SCall) (done : Bool) (er nu : Int) (e : Ending) (w' : World) : Prop :=
  ∃ v C' F' L', L'.length ≤ N ∧ e = .returned (.tuple #[v, .agg #[.bool done, .int .i64 er, .int .i64 nu]]) ∧ ShAt w' C' F' gx gb L' s ∧ PendS w' C' F' gx who v cl ∧ GB w w' C ∧ (∀ i, C' i → C i ∨ w.heap.size ≤ i) ∧ (∀ i, F i → F' i) ∧ ∀ i, F' i → F i ∨ w.heap.size ≤ i
/-- the board was read, its version lies in a new box -/
def BegMid (W : World) (C F : Nat → Prop) (gx gb : Nat) (L' : List AccE) (s : SSt) (v4 v5 : Value) (wd : World) : Prop :=
  ∃ b t A c ks C' F', v4 = .pointer (some ⟨b, 0, none⟩) ∧ v5 = .slice A s.lst.length c ∧ wd.heap[b]? = some (.cells #[.int .u64 (s.ver : Int)] t (0, 0)) ∧ ¬ F' b ∧ W.heap.size ≤ b ∧ EntF wd C' F' A s.lst ks ∧ ShAt wd C' F' gx gb L' s ∧ GB W wd C ∧ (∀ i, C' i → C i ∨ W.heap.size ≤ i) ∧ (∀ i, F i → F' i) ∧ ∀ i, F' i → F i ∨ W.heap.size ≤ i
theorem begMid_last {W w2 : World} {C F : Nat → Prop} {gx gb : Nat} {L' : List AccE} {s : SSt} {t : TypeId} {A : Option Addr} {c : Nat} {ks : List Kref} (hlt : ∀ i, F i → i < W.heap.size) (hE : EntF W.drew C F A s.lst ks) (hg : ShGo W.drew C F gx gb L' s w2) :
    BegMid W C F gx gb L' s (.pointer (some ⟨w2.heap.size, 0, none⟩)) (.slice A s.lst.length c) (w2.alloc (.cells #[.int .u64 (s.ver : Int)] t)) := by
  obtain ⟨C', F', m, g, f1, f2, f3⟩ := hg
  have hn : ¬ F' w2.heap.size := fun e => Nat.lt_irrefl _ (m.lt _ e)
  have hW : W.heap.size ≤ w2.heap.size := g.size
  have x : Ext w2 (w2.alloc (.cells #[.int .u64 (s.ver : Int)] t)) := (Ext.refl w2).alloc _
  have hE' := hE.gb (C' := C') (F' := F') g (fun i hi => .inl hi) (fun i hi e => (f1 i e).elim .inl (fun h => absurd hi (by show ¬ i < W.heap.size; exact Nat.not_lt.2 h))) f2 hlt
  exact ⟨w2.heap.size, t, A, c, ks, C', F', rfl, rfl, blk_new w2 (.cells #[.int .u64 (s.ver : Int)] t (0, 0)), hn, hW, hE'.gb (GB.of_ext (fun _ => False) x) (fun _ e => e.elim) (fun _ _ e => .inl e) (fun _ e => e) m.lt, m.ext x, (GB.back (Ext.refl W).drew g).ext x, f1, f2, f3⟩
theorem begMid_first {W w2 : World} {C F : Nat → Prop} {gx gb : Nat} {L' : List AccE} {s : SSt} {t : TypeId} {x0 : Value} {A : Option Addr} {c : Nat} {ks : List Kref} (hC : ∀ i, C i → F i) (hlt : ∀ i, F i → i < W.heap.size) (hE : EntF (W.alloc (.cells #[x0] t)).drew C F A s.lst ks) (hg : ShGo (W.alloc (.cells #[x0] t)).drew C F gx gb L' s w2) :
    BegMid W C F gx gb L' s (.pointer (some ⟨W.heap.size, 0, none⟩)) (.slice A s.lst.length c) (w2.setCell ⟨W.heap.size, 0, none⟩ (.int .u64 (s.ver : Int))) := by
  obtain ⟨C', F', m, g, f1, f2, f3⟩ := hg
  have hsz : (W.alloc (.cells #[x0] t)).drew.heap.size = W.heap.size + 1 := World.size_alloc _ _
  have hn : ¬ F' W.heap.size := fun e => by
    rcases f3 _ e with h | h
    · exact Nat.lt_irrefl _ (hlt _ h)
    · rw [hsz] at h; omega
  have kb := g.blk (show (W.alloc (.cells #[x0] t)).drew.heap[W.heap.size]? = some (.cells #[x0] t (0, 0)) from blk_new W _) (fun e => Nat.lt_irrefl _ (hlt _ (hC _ e)))
  have gs : GB w2 (w2.setCell ⟨W.heap.size, 0, none⟩ (.int .u64 (s.ver : Int))) (· = W.heap.size) := (GB.refl w2 (· = W.heap.size)).set W.heap.size 0 _ (.inl rfl)
  have hE' := hE.gb (C' := C') (F' := F') g (fun i hi => .inl hi) (fun i hi e => (f1 i e).elim .inl (fun h => absurd hi (Nat.not_lt.2 h))) f2 (fun i hi => by rw [hsz]; exact Nat.lt_succ_of_lt (hlt i hi))
  refine ⟨W.heap.size, t, A, c, ks, C', F', rfl, rfl, blk_set kb 0 _, hn, Nat.le_refl _, hE'.gb gs (fun i e => .inr (.inl (e ▸ hn))) (fun _ _ e => .inl e) (fun _ e => e) m.lt, m.gb gs (fun i hi e => hn (e ▸ hi)), (GB.back ((Ext.refl W).alloc _).drew g).set W.heap.size 0 _ (.inr (Nat.le_refl _)), fun i hi => ?_, f2, fun i hi => ?_⟩
  · rcases f1 i hi with h | h
    · exact .inl h
    · rw [hsz] at h; exact .inr (by omega)
  · rcases f3 i hi with h | h
    · exact .inl h
    · rw [hsz] at h; exact .inr (by omega)
theorem begMid_blk {W w2 : World} {C F : Nat → Prop} {gx gb : Nat} {L' : List AccE} {s : SSt} {t : TypeId} {x0 : Value} (hC : ∀ i, C i → F i) (hlt : ∀ i, F i → i < W.heap.size) (hg : ShGo (W.alloc (.cells #[x0] t)).drew C F gx gb L' s w2) : w2.cell? ⟨W.heap.size, 0, none⟩ = some x0 ∧ w2.frozen? ⟨W.heap.size, 0, none⟩ = false := by
  obtain ⟨C', F', m, g, _⟩ := hg
  have kb := g.blk (show (W.alloc (.cells #[x0] t)).drew.heap[W.heap.size]? = some (.cells #[x0] t (0, 0)) from blk_new W _) (fun e => Nat.lt_irrefl _ (hlt _ (hC _ e)))
  exact ⟨blk_cell kb 0, blk_frozen kb 0⟩
/-- what the world of the cut is to what was there before -/
theorem BegMid.more {w W wd w3 : World} {C F C' F' : Nat → Prop} {gx gb who N : Nat} {L' : List AccE} {s : SSt} {cl : SCall} {v : Value} {done : Bool} {er nu : Int} (hL : L'.length ≤ N) (xW : Ext w W) (hr : w.heap.size < W.heap.size) (hlt : ∀ i, F i → i < w.heap.size) (h1 : ShAt wd C' F' gx gb L' s) (h2 : GB W wd C) (h3 : ∀ i, C' i → C i ∨ W.heap.size ≤ i) (h4 : ∀ i, F i → F' i) (h5 : ∀ i, F' i → F i ∨ W.heap.size ≤ i) (x3 : Ext wd w3)
    (hp : PendS w3 C' (fun i => F' i ∨ (W.heap.size ≤ i ∧ i < w3.heap.size)) gx who v cl) (a b c : Value) :
    SClo w C F gx gb who N s cl done er nu (.returned (.tuple #[v, .agg #[.bool done, .int .i64 er, .int .i64 nu]])) (((w3.setCell ⟨w.heap.size, 0, none⟩ a).setCell ⟨w.heap.size, 1, none⟩ b).setCell ⟨w.heap.size, 2, none⟩ c) := by
  have gs : GB w3 (((w3.setCell ⟨w.heap.size, 0, none⟩ a).setCell ⟨w.heap.size, 1, none⟩ b).setCell ⟨w.heap.size, 2, none⟩ c) (· = w.heap.size) := ((((GB.refl w3 (fun x => x = w.heap.size)).set w.heap.size 0 a (.inl rfl)).set w.heap.size 1 b (.inl rfl)).set w.heap.size 2 c (.inl rfl))
  have hn : ¬ (F' w.heap.size ∨ (W.heap.size ≤ w.heap.size ∧ w.heap.size < w3.heap.size)) := fun e => by
    rcases e with e | e
    · rcases h5 _ e with h | h
      · exact Nat.lt_irrefl _ (hlt _ h)
      · omega
    · omega
  have hl1 := h1.lt
  have A : ShAt w3 C' (fun i => F' i ∨ (W.heap.size ≤ i ∧ i < w3.heap.size)) gx gb L' s := (h1.ext x3).more (fun i hi => .inl hi) (fun i hi => hi.elim (fun h => Nat.lt_of_lt_of_le (hl1 i h) x3.size) (·.2))
  have hs9 := gs.size
  refine ⟨v, C', fun i => F' i ∨ (W.heap.size ≤ i ∧ i < w3.heap.size), L', hL, rfl, A.gb gs (fun i hi e => hn (e ▸ hi)), hp.gb gs (fun i e => .inr (.inl (e ▸ hn))) (fun _ _ e => .inl e) (fun _ e => e) A.lt, ((GB.back xW h2).ext x3).trans gs (fun i e => .inr (by omega)), fun i hi => (h3 i hi).imp id (fun e => by omega), fun i hi => .inl (h4 i hi), fun i hi => ?_⟩
  rcases hi with hi | hi
  · exact (h5 i hi).imp id (fun e => by omega)
  · exact .inr (by omega)
theorem ShAt.gx0 {w : World} {C F : Nat → Prop} {gx gb : Nat} {L : List AccE} {s : SSt} (h : ShAt w C F gx gb L s) : w.cell? ⟨gx, 0, none⟩ = some (.pointer (some ⟨gb, 0, none⟩)) := by
  obtain ⟨_, _, _, _, _, _, _, h1, _⟩ := h.mach
  exact h1
theorem ShAt.lst {w : World} {C F : Nat → Prop} {gx gb : Nat} {L : List AccE} {s : SSt} (h : ShAt w C F gx gb L s) : C gx := by
  obtain ⟨_, _, _, h3, _⟩ := h.pend (who := 0) (by omega)
  exact h3
def begOut (op : Nat) (key : List Nat) (val : Int) (s : SSt) : SCall × SRes :=
  if op = 1 then (if hasE s.lst key = true then (.idle, ⟨true, 0, getE s.lst key⟩) else (.idle, ⟨true, 7, 0⟩))
  else if (madeE op key val s.lst).2.2 ≠ 0 then (.idle, ⟨true, (madeE op key val s.lst).2.2, 0⟩)
  else (.swap op key val s.ver (madeE op key val s.lst).1 (madeE op key val s.lst).2.1, ⟨false, 0, 0⟩)
set_option maxHeartbeats 4000000 in
set_option maxRecDepth 100000 in
theorem sbeg_any (w : World) (C F : Nat → Prop) (gx gb who op : Nat) (key : List Nat) (val : Int) (L : List AccE) (s : SSt) (p0 p1 : Value) (h : ShAt w C F gx gb L s) (hs : LstOk s.lst) (hL : L.length ≤ 100000) (hw : who < 64)
    (k0 : BoxAt w C F p0 (.pointer (some ⟨gx, 0, none⟩))) (k1 : CallBox w C F p1 who op key val) (ha : AskOk op key val) :
    Calls Try.prog 90 #[p0, p1] w (SClo w C F gx gb who (L.length + 1) s (begOut op key val s).1 (begOut op key val s).2.done ((begOut op key val s).2.err : Int) (begOut op key val s).2.num) := by
  have hmf := hmfC
  have K0 := Lib.hid k0; have K1 := Lib.hid k1
  obtain ⟨b0, rfl, c0, n0, f0⟩ := k0.cell
  obtain ⟨b1, t1, K, d, rfl, kb1, n1, f1, hkd, hrk, hKF⟩ := k1
  have Hlt := Lib.hid h.lt; have Hsub := Lib.hid h.sub
  obtain ⟨W, hW⟩ : ∃ W, w.alloc (.cells #[.bool false, .int .i64 0, .int .i64 0] 74) = W := ⟨_, rfl⟩
  have xW : Ext w W := by rw [← hW]; exact (Ext.refl w).alloc _
  have KR := Lib.hid (show W.heap[w.heap.size]? = some (.cells #[.bool false, .int .i64 0, .int .i64 0] 74 (0, 0)) by rw [← hW]; exact blk_new w _)
  have LD := Lib.hid (fun (u : World) (hx : Ext W u) => bload_any u C F gx gb who L s (h.ext (xW.trans hx)) hL hw)
  have HltW := Lib.hid (fun i hi => Nat.lt_trans (Hlt.out i hi) (blk_lt KR.out))
  have d0 := ext_cell xW c0
  have d1 : W.cell? ⟨b1, 0, none⟩ = some (.int .i64 (who : Int)) := ext_cell xW (blk_cell kb1 0)
  have dc := ext_cell xW h.gx0
  have KB1 := Lib.hid (blk_ext kb1 xW)
  have HKR := Lib.hid (hrk.ext xW)
  have HKF := Lib.hid hKF
  have ne0 : b0 ≠ W.heap.size := Nat.ne_of_lt (World.block_lt_of_cell? W _ d0)
  have ne1 : b1 ≠ W.heap.size := Nat.ne_of_lt (World.block_lt_of_cell? W _ d1)
  have nec : gx ≠ W.heap.size := Nat.ne_of_lt (World.block_lt_of_cell? W _ dc)
  have XW := Lib.hid xW; have HA := Lib.hid ha; have HS := Lib.hid hs
  clear c0 kb1 hrk hKF h k0 ha hs
  go_enter Try.func90, Try.ntmps90
  go_upto_region 1 with fail
  (try rw [hW])
  clear hW
  go_cut [4, 5] (fun v4 v5 wd => BegMid W C F gx gb (L ++ [⟨who, 1, 0, s.ver, 0, true⟩]) s v4 v5 wd)
  case first =>
    go_region_held3 (fun w' => w'.cell? ⟨b0, 0, none⟩ = some (.pointer (some ⟨gx, 0, none⟩)) ∧ w'.cell? ⟨b1, 0, none⟩ = some (.int .i64 (who : Int)) ∧ w'.cell? ⟨gx, 0, none⟩ = some (.pointer (some ⟨gb, 0, none⟩)))
      (((try go_split_ands); refine ⟨?_, ?_, ?_⟩ <;> first | assumption | (with_reducible exact drew_cell d0) | (with_reducible exact drew_cell d1) | (with_reducible exact drew_cell dc) | (with_reducible exact drew_cell (cell_past d0 _)) | (with_reducible exact drew_cell (cell_past d1 _)) | (with_reducible exact drew_cell (cell_past dc _)) | (with_reducible exact t0) | (with_reducible exact t1) | (with_reducible exact tc) | (with_reducible exact cell_past t0 _) | (with_reducible exact cell_past t1 _) | (with_reducible exact cell_past tc _) | (with_reducible exact cell_other t0 ne0) | (with_reducible exact cell_other t1 ne1) | (with_reducible exact cell_other tc nec) | (with_reducible exact drew_cell (cell_other t0 ne0)) | (with_reducible exact drew_cell (cell_other t1 ne1)) | (with_reducible exact drew_cell (cell_other tc nec)) | (with_reducible exact drew_cell (cell_past t0 _)) | (with_reducible exact drew_cell (cell_past t1 _)) | (with_reducible exact drew_cell (cell_past tc _))))
      (first
        | (go_at_call 91; (with_reducible refine (LD.out W.drew (Ext.refl W).drew).mono ?_); rintro e w2 ⟨A, c, ks, rfl, hE, hg⟩; have HL := Lib.hid (begMid_last (t := 122) (c := c) HltW.out hE hg); obtain ⟨_, _, m2, g2, _⟩ := hg; have g3 := GB.back (Ext.refl W).drew g2; have t0 := g3.cell d0 n0; have t1 := g3.cell d1 n1; have tc := m2.gx0; clear g2 g3 m2 hE)
        | (go_at_call 91; (with_reducible refine (LD.out (W.alloc _).drew ((Ext.refl W).alloc _).drew).mono ?_); rintro e w2 ⟨A, c, ks, rfl, hE, hg⟩; have HL := Lib.hid (begMid_first (c := c) Hsub.out HltW.out hE hg); obtain ⟨cb0, fb0⟩ := begMid_blk Hsub.out HltW.out hg; obtain ⟨_, _, m2, g2, _⟩ := hg; have g3 := GB.back ((Ext.refl W).alloc _).drew g2; have t0 := g3.cell d0 n0; have t1 := g3.cell d1 n1; have tc := m2.gx0; clear g2 g3 m2 hE))
    all_goals
      go_wp2_with fail
      go_meet
      exact HL.out
  case rest =>
    obtain ⟨b, tb, A, c, ks, C', F', rfl, rfl, kb, hnb, hbW, hE, hSh, hG, g1, g2, g3⟩ := hcut
    have KBd := hG.blk KB1.out n1
    have e0 : wc.cell? ⟨b1, 0, none⟩ = some (.int .i64 (who : Int)) := blk_cell KBd 0
    have e1 : wc.cell? ⟨b1, 1, none⟩ = some (.int .u8 (op : Int)) := blk_cell KBd 1
    have e2 : wc.cell? ⟨b1, 2, none⟩ = some (.slice K key.length d) := blk_cell KBd 2
    have e3 : wc.cell? ⟨b1, 3, none⟩ = some (.int .i64 val) := blk_cell KBd 3
    have hRk := rd_gb HKR.out HKF.out hG (fun i hi => .inl hi) HltW.out
    have KR2 := Lib.hid (hG.blk KR.out (fun e => Nat.lt_irrefl _ (Hlt.out _ (Hsub.out _ e))))
    have FD := Lib.hid (find_any wc A K s.lst.length c key.length d s.lst ks key rfl (by have := HS.out.2.2; omega) HS.out.1 HS.out.2.1 hE.1 rfl HA.out.2.2.2.1 hRk)
    have MK := Lib.hid (fun h1 => made_any wc who val op A K s.lst.length c key.length d s.lst ks key rfl HS.out hE.1 rfl hkd HA.out h1 hRk)
    have HE := Lib.hid hE; have HSh := Lib.hid hSh; have HG := Lib.hid hG; have G1 := Lib.hid g1; have G2 := Lib.hid g2; have G3 := Lib.hid g3; have HB := Lib.hid kb; have HNB := Lib.hid hnb
    have hNL : (L ++ [(⟨who, 1, 0, s.ver, 0, true⟩ : AccE)]).length ≤ L.length + 1 := by simp
    have hrW : w.heap.size < W.heap.size := blk_lt KR.out
    clear hE hSh hG g1 g2 g3 kb hnb KBd hRk d0 d1 dc
    obtain ⟨ln, Hln⟩ : ∃ n, Hid (s.lst.length = n) := ⟨_, rfl⟩
    obtain ⟨at_, Hat⟩ : ∃ a, Hid (atE s.lst key = a) := ⟨_, rfl⟩
    obtain ⟨hb, Hhb⟩ : ∃ b, Hid (hasE s.lst key = b) := ⟨_, rfl⟩
    have hatn := at_le s.lst key
    by_cases hop : op = 1
    · subst hop
      unfold FindR at FD
      rw [Hat.out, Hhb.out] at FD
      rw [Hln.out] at FD ⊢
      cases hb with
      | true =>
        have hlt : at_ < ln := by have := has_lt Hhb.out; rw [Hat.out, Hln.out] at this; exact this
        obtain ⟨x, hx, hgx⟩ := has_get Hhb.out
        rw [Hat.out] at hx
        obtain ⟨ab, off, Kx, cx, hA, -, -, cv, -, -⟩ := HE.out.1.at_ hx
        dsimp only at cv
        have Hgx := Lib.hid hgx
        subst hA
        clear hx hgx e3 e0
        go_wp2_with fail
        refine FD.out.mono ?_
        rintro e w3 ⟨rfl, x3⟩
        have cv3 := ext_cell x3 cv
        have KR3 := Lib.hid (blk_ext KR2.out x3)
        go_wp2_with fail
        refine (send_any 0 x _).mono ?_
        rintro e w4 ⟨rfl, x4⟩
        clear cv cv3 e1 e2
        have KR4 := blk_ext KR3.out x4
        have r0 := blk_cell KR4 0; have r1 := blk_cell KR4 1; have r2 := blk_cell KR4 2
        have z0 := blk_frozen KR4 0; have z1 := blk_frozen KR4 1; have z2 := blk_frozen KR4 2
        have K4 := Lib.hid KR4
        clear KR4
        go_wp2_with fail
        refine bodyPost_ret (results_tmp_row (p := 3) (u := 2) rfl _ _ w.heap.size _ #[.bool true, .int .i64 0, .int .i64 x] (0, 0) _ rfl (row3 K4.out _ _ _) Try.underlying74 (by rfl) (by kernel_rfl)) rfl ?_
        have e9 : begOut 1 key val s = (.idle, ⟨true, 0, x⟩) := by unfold begOut; rw [if_pos rfl, if_pos Hhb.out, Hgx.out]
        rw [e9]
        exact BegMid.more (cl := .idle) (v := .nilFunc) hNL XW.out hrW Hlt.out HSh.out HG.out G1.out G2.out G3.out (x3.trans x4) rfl _ _ _
      | false =>
        clear e3 e0
        go_wp2_with fail
        refine FD.out.mono ?_
        rintro e w3 ⟨rfl, x3⟩
        have KR3 := Lib.hid (blk_ext KR2.out x3)
        go_wp2_with fail
        refine (send_any 7 0 _).mono ?_
        rintro e w4 ⟨rfl, x4⟩
        clear e1 e2
        have KR4 := blk_ext KR3.out x4
        have r0 := blk_cell KR4 0; have r1 := blk_cell KR4 1; have r2 := blk_cell KR4 2
        have z0 := blk_frozen KR4 0; have z1 := blk_frozen KR4 1; have z2 := blk_frozen KR4 2
        have K4 := Lib.hid KR4
        clear KR4
        go_wp2_with fail
        refine bodyPost_ret (results_tmp_row (p := 3) (u := 2) rfl _ _ w.heap.size _ #[.bool true, .int .i64 7, .int .i64 0] (0, 0) _ rfl (row3 K4.out _ _ _) Try.underlying74 (by rfl) (by kernel_rfl)) rfl ?_
        have e9 : begOut 1 key val s = (.idle, ⟨true, 7, 0⟩) := by unfold begOut; rw [if_pos rfl, if_neg (by rw [Hhb.out]; exact Bool.false_ne_true)]
        rw [e9]
        exact BegMid.more (cl := .idle) (v := .nilFunc) hNL XW.out hrW Hlt.out HSh.out HG.out G1.out G2.out G3.out (x3.trans x4) rfl _ _ _
    · have h1' : ((op : Int) == 1) = false := by simpa using (by omega : (op : Int) ≠ 1)
      obtain ⟨ml, hml⟩ : ∃ x, (madeE op key val s.lst).1 = x := ⟨_, rfl⟩
      obtain ⟨mn, hmn⟩ : ∃ x, (madeE op key val s.lst).2.1 = x := ⟨_, rfl⟩
      obtain ⟨me, hme⟩ : ∃ x, (madeE op key val s.lst).2.2 = x := ⟨_, rfl⟩
      have MD := MK.out hop
      unfold MadeR at MD
      rw [hml, hmn, hme] at MD
      have MD' := Lib.hid MD
      have Hml := Lib.hid hml; have Hmn := Lib.hid hmn; have Hme := Lib.hid hme
      clear MD hml hmn hme MK FD
      rw [Hln.out] at MD' ⊢
      go_wp2_with fail
      refine MD'.out.mono ?_
      rintro e w3 ⟨A2, n2, c2, ks2, rfl, hl2, hE2, x3, hks, hA2⟩
      have HE2 := Lib.hid hE2; have HL2 := Lib.hid hl2; have X3 := Lib.hid x3; have HKS := Lib.hid hks; have HA2 := Lib.hid hA2
      clear e0 e1 e2 e3 hE2 hl2 x3 hks hA2
      by_cases hz : me = 0
      · subst hz
        have hsw : w.heap.size < w3.heap.size := Nat.lt_of_lt_of_le (blk_lt KR2.out) X3.out.size
        obtain ⟨w5, hw5⟩ : ∃ w5, ((w3.alloc (.cells #[.slice A2 n2 c2] 90 (0, 0))).alloc (.cells #[.int .i64 mn] 2 (0, 0))) = w5 := ⟨_, rfl⟩
        have KR5 := Lib.hid (show w5.heap[w.heap.size]? = _ from hw5 ▸ blk_past (blk_past (blk_ext KR2.out X3.out) (.cells #[.slice A2 n2 c2] 90 (0, 0))) (.cells #[.int .i64 mn] 2 (0, 0)))
        have KA := Lib.hid (show w5.heap[w3.heap.size]? = some (.cells #[.slice A2 n2 c2] 90 (0, 0)) from hw5 ▸ blk_past (blk_new w3 _) _)
        have KB := Lib.hid (show w5.heap[w3.heap.size + 1]? = some (.cells #[.int .i64 mn] 2 (0, 0)) from hw5 ▸ blk_newk _ _ (by simp))
        have X5 := Lib.hid (show Ext w3 w5 from hw5 ▸ ((Ext.refl w3).alloc _).alloc _)
        have hsz : w5.heap.size = w3.heap.size + 1 + 1 := by rw [← hw5, World.size_alloc, World.size_alloc]
        have r0 := blk_cell KR5.out 0; have r1 := blk_cell KR5.out 1; have r2 := blk_cell KR5.out 2
        have z0 := blk_frozen KR5.out 0; have z1 := blk_frozen KR5.out 1; have z2 := blk_frozen KR5.out 2
        have Hsz := Lib.hid hsz
        clear hsz
        go_upto_region 8 with fail
        (try rw [hw5])
        clear hw5
        go_wp2_with fail
        refine bodyPost_ret (results_tmp_row (p := 3) (u := 2) rfl _ _ w.heap.size _ #[.bool false, .int .i64 0, .int .i64 0] (0, 0) _ rfl (row3 KR5.out _ _ _) Try.underlying74 (by rfl) (by kernel_rfl)) rfl ?_
        have e9 : begOut op key val s = (.swap op key val s.ver ml mn, ⟨false, 0, 0⟩) := by unfold begOut; rw [if_neg hop, if_neg (by rw [Hme.out]; simp), Hml.out, Hmn.out]
        rw [e9]
        have x5 : Ext wc w5 := X3.out.trans X5.out
        have hsz := Hsz.out
        refine BegMid.more (cl := .swap op key val s.ver ml mn) hNL XW.out hrW Hlt.out HSh.out HG.out G1.out G2.out G3.out x5 ?_ _ _ _
        have hFlt := HSh.out.lt
        have hsub := HSh.out.sub
        have hz3 := X3.out.size
        have hzd := HG.out.size
        have hnew : ∀ q, W.heap.size ≤ q → q < w3.heap.size + 1 + 1 → (F' q ∨ (W.heap.size ≤ q ∧ q < w5.heap.size)) := fun q h1 h2 => .inr ⟨h1, by rw [hsz]; exact h2⟩
        have hnC : ∀ q, wc.heap.size ≤ q → ¬ C' q := fun q h e => by have := hFlt _ (hsub _ e); omega
        have gx5 : GB wc w5 (fun _ => False) := GB.of_ext _ x5
        have hCC : ∀ i, i < W.heap.size → C' i → C i ∨ ¬ F i := fun i hi e => (G1.out i e).elim .inl (fun h => absurd hi (Nat.not_lt.2 h))
        have k0' := ((K0.out.gb (GB.of_ext (fun _ => False) XW.out) (fun _ e => e.elim) (fun _ _ e => .inl e) (fun _ e => e)).gb (C' := C') (F' := F') HG.out (fun i e => .inl e) hCC G2.out).gb (F' := fun i => F' i ∨ (W.heap.size ≤ i ∧ i < w5.heap.size)) gx5 (fun _ e => e.elim) (fun _ _ e => .inl e) (fun _ e => .inl e)
        have k1' := ((K1.out.gb (GB.of_ext (fun _ => False) XW.out) (fun _ e => e.elim) (fun _ _ e => .inl e) (fun _ e => e) Hlt.out).gb (C' := C') (F' := F') HG.out (fun i e => .inl e) hCC G2.out HltW.out).gb (F' := fun i => F' i ∨ (W.heap.size ≤ i ∧ i < w5.heap.size)) gx5 (fun _ e => e.elim) (fun _ _ e => .inl e) (fun _ e => .inl e) hFlt
        have hbl := blk_lt HB.out
        refine ⟨_, _, _, _, _, A2, c2, ks2, rfl, k0', k1', ⟨b, tb, rfl, blk_ext HB.out x5, fun e => HNB.out (hsub _ e), hnew _ hbW (by omega)⟩, ⟨w3.heap.size, 90, rfl, ?_, hnC _ hz3, hnew _ (by omega) (by omega)⟩, ⟨by rw [← Hml.out]; rw [← Hml.out] at HE2; exact HE2.out.ext X5.out, fun a ha => ?_, fun q hq a ha => ?_⟩, ⟨w3.heap.size + 1, _, rfl, KB.out, hnC _ (by omega), hnew _ (by omega) (by omega)⟩⟩
        · rw [HL2.out]
          exact KA.out
        · have h9 := HA2.out a ha
          exact ⟨hnC _ h9.1, hnew _ (by omega) (by omega)⟩
        · rcases HKS.out q hq with h | h
          · have h9 := HE.out.2.2 q h a ha
            exact ⟨h9.1, .inl h9.2⟩
          · rw [h] at ha
            have h9 := HKF.out a ha
            exact ⟨fun e => (hCC _ (HltW.out _ h9.2) e).elim h9.1 (fun h => h h9.2), .inl (G2.out _ h9.2)⟩
      · have hz' : ((me : Int) == 0) = false := by simpa using (by omega : (me : Int) ≠ 0)
        have KR3 := Lib.hid (blk_past (blk_past (blk_ext KR2.out X3.out) (.cells #[.slice A2 n2 c2] 90 (0, 0))) (.cells #[.int .i64 mn] 2 (0, 0)))
        go_wp2_with fail
        refine (send_any me 0 _).mono ?_
        rintro e w4 ⟨rfl, x4⟩
        have KR4 := blk_ext KR3.out x4
        have r0 := blk_cell KR4 0; have r1 := blk_cell KR4 1; have r2 := blk_cell KR4 2
        have z0 := blk_frozen KR4 0; have z1 := blk_frozen KR4 1; have z2 := blk_frozen KR4 2
        have K4 := Lib.hid KR4
        clear KR4
        go_wp2_with fail
        refine bodyPost_ret (results_tmp_row (p := 3) (u := 2) rfl _ _ w.heap.size _ #[.bool true, .int .i64 (me : Int), .int .i64 0] (0, 0) _ rfl (row3 K4.out _ _ _) Try.underlying74 (by rfl) (by kernel_rfl)) rfl ?_
        have e9 : begOut op key val s = (.idle, ⟨true, me, 0⟩) := by unfold begOut; rw [if_neg hop, if_pos (by rw [Hme.out]; exact hz), Hme.out]
        rw [e9]
        exact BegMid.more (cl := .idle) (v := .nilFunc) hNL XW.out hrW Hlt.out HSh.out HG.out G1.out G2.out G3.out (((X3.out.alloc _).alloc _).trans x4) rfl _ _ _
end Go.Proofs.Ytlgggeeflomelaa
