/- Laid together: what 'ConnOrder' needs, part 5 of 6. -/
import Derived.Test.YthkdjjfnmlemdaaBConnOrder4
namespace Go.Proofs.Ythkdjjfnmlemdaa

section
open Go.RowKit

set_option maxHeartbeats 2000000 in
set_option maxRecDepth 100000 in
/-- Reply of a nil connection -/
theorem creply_nil (w : World) (e : Int) (g : Bool) (l t sn nw : Int) :
    Calls Try.prog 52 #[.pointer none, .agg #[.int .i64 e, .bool g, .int .i64 l, .int .i64 t, .int .i64 sn, .int .i64 nw]] w fun x w' => ∃ q B, RepIs e g [l, t, sn, nw] q B ∧ x = .returned (.int .i64 (if q = 0 then 7 else q)) ∧ Ext w w' := by
  have RP := Lib.hid (fun u => show Calls Try.prog 42 #[.agg #[.int .i64 e, .bool g, .int .i64 l, .int .i64 t, .int .i64 sn, .int .i64 nw]] u (RetRep e g [l, t, sn, nw] u) from by
    by_cases he : e < 0 ∨ 16 < e
    · refine (reply_e u e g l t sn nw he).mono ?_
      intro x w' h
      exact ⟨1, [], .inl ⟨rfl, rfl, fun h => by omega⟩, h⟩
    · obtain ⟨k, rfl⟩ : ∃ k : Nat, e = (k : Int) := ⟨e.toNat, by omega⟩
      cases g
      · exact reply_false u k l t sn nw (by omega)
      · exact reply_true u k l t sn nw (by omega))
  obtain ⟨W, hW⟩ : ∃ W, w.alloc (.cells #[.int .i64 e, .bool g, .int .i64 l, .int .i64 t, .int .i64 sn, .int .i64 nw] 74) = W := ⟨_, rfl⟩
  have xW : Ext w W := by rw [← hW]; exact (Ext.refl w).alloc _
  have KP := Lib.hid (show W.heap[w.heap.size]? = some (.cells #[.int .i64 e, .bool g, .int .i64 l, .int .i64 t, .int .i64 sn, .int .i64 nw] 74 (0, 0)) by rw [← hW]; exact blk_new w _)
  have XW := Lib.hid xW
  clear xW
  go_enter Try.func52, Try.ntmps52
  go_upto_region 1 with fail
  (try rw [hW])
  clear hW
  have p0 : W.cell? ⟨w.heap.size, 0, none⟩ = some (.int .i64 e) := blk_cell KP.out 0
  have p1 : W.cell? ⟨w.heap.size, 1, none⟩ = some (.bool g) := blk_cell KP.out 1
  have p2 : W.cell? ⟨w.heap.size, 2, none⟩ = some (.int .i64 l) := blk_cell KP.out 2
  have p3 : W.cell? ⟨w.heap.size, 3, none⟩ = some (.int .i64 t) := blk_cell KP.out 3
  have p4 : W.cell? ⟨w.heap.size, 4, none⟩ = some (.int .i64 sn) := blk_cell KP.out 4
  have p5 : W.cell? ⟨w.heap.size, 5, none⟩ = some (.int .i64 nw) := blk_cell KP.out 5
  go_wp2_with fail
  refine (RP.out W).mono ?_
  rintro x w1 ⟨q, B, hri, A1, c1, rfl, o1, x1⟩
  clear p0 p1 p2 p3 p4 p5
  have X1 := Lib.hid (XW.out.trans x1)
  have HRI := Lib.hid hri
  rcases hri with ⟨rfl, rfl, -⟩ | ⟨rfl, -⟩
  · clear x1 o1
    go_wp2_with fail
    go_ret
    exact ⟨1, [], HRI.out, rfl, X1.out⟩
  · clear x1 o1
    go_wp2_with fail
    go_ret
    exact ⟨0, B, HRI.out, rfl, X1.out⟩

set_option maxHeartbeats 1000000 in
set_option maxRecDepth 100000 in
theorem cnext_nil (w : World) : Calls Try.prog 50 #[.pointer none] w (RetE (.tuple #[callZ, .int .i64 7]) w) := by
  go_enter Try.func50, Try.ntmps50
  go_wp2_with fail
  refine bodyPost_ret (results_row_tmp (p := 2) (u := 3) rfl _ _ w.heap.size _ #[.int .u8 0, .int .i64 0, .slice none 0 0, .int .i64 0] (0, 0) _ rfl (blk_new w _) Try.underlying63 (by rfl) (by kernel_rfl)) rfl ?_
  exact ⟨rfl, (Ext.refl w).alloc _⟩
theorem dfeed_nil (w : World) (A : Option Addr) (n c : Nat) : Calls Try.prog 89 #[.pointer none, .slice A n c] w fun e w' => e = .returned (.int .i64 7) ∧ w = w' := by
  go_enter Try.func89, Try.ntmps89
  go_wp2_with fail
  go_ret
  exact ⟨rfl, rfl⟩
theorem dtake_nil (w : World) : Calls Try.prog 92 #[.pointer none] w fun e w' => e = .returned (.slice none 0 0) ∧ w = w' := by
  go_enter Try.func92, Try.ntmps92
  go_wp2_with fail
  go_ret
  exact ⟨rfl, rfl⟩
theorem dhangup_nil (w : World) : Calls Try.prog 93 #[.pointer none] w fun e w' => e = .returned (.slice none 0 0) ∧ w = w' := by
  go_enter Try.func93, Try.ntmps93
  go_wp2_with fail
  go_ret
  exact ⟨rfl, rfl⟩
set_option maxHeartbeats 1000000 in
set_option maxRecDepth 100000 in
theorem dnext_nil (w : World) : Calls Try.prog 90 #[.pointer none] w (RetE (.tuple #[callZ, .int .i64 7]) w) := by
  go_enter Try.func90, Try.ntmps90
  go_wp2_with fail
  first
    | (refine bodyPost_ret (results_row_tmp (p := 2) (u := 3) rfl _ _ w.heap.size _ #[.int .u8 0, .int .i64 0, .slice none 0 0, .int .i64 0] (0, 0) _ rfl (blk_new w _) Try.underlying63 (by rfl) (by kernel_rfl)) rfl ?_
       exact ⟨rfl, (Ext.refl w).alloc _⟩)
    | (refine bodyPost_ret (results_row_tmp (p := 1) (u := 2) rfl _ _ w.heap.size _ #[.int .u8 0, .int .i64 0, .slice none 0 0, .int .i64 0] (0, 0) _ rfl (blk_new w _) Try.underlying63 (by rfl) (by kernel_rfl)) rfl ?_
       exact ⟨rfl, (Ext.refl w).alloc _⟩)

theorem cl_info : (Try.prog.info? 63).map (fun i => (i.zero, i.size, i.bytes)) = some (some (.agg #[.int .u8 0, .int .i64 0, .slice none 0 0, .int .i64 0]), 4, 48) := by kernel_rfl
theorem cl_size : ∀ u : World, (sizeOf 63).run Try.prog u = .ok 4 u := fun _ => by kernel_rfl
theorem step_app_call {ops : Array Oper} {o : Oper} {a : Act} {K : Act → World → Prop} {Q : Exit → Act → World → Prop} {E : Prop} (w : World) (hgd : o.guard = none) (s x : Operand)
    (ho : o.op = .call { callee := .builtin .append, args := #[s, x], argTypes := #[82, 82] })
    {ob : Option Nat} {v : Value} {n : Nat} {xs : List Value} (hs : a.eval s = v) (h : OffS w 4 ob v n xs) (hn : n ≤ 1000000)
    {ad : Addr} {c : Nat} {news : List Value} (hx : a.eval x = .slice (some ad) 1 c) (hl : news.length = 4) (hr : ∀ j u, news[j]? = some u → w.cell? (ad.add j) = some u) (h1 : ∀ u ∈ news, u.oneCell' = true)
    (hK : ∀ v' w' ob', OffS w' 4 ob' v' (n + 1) (xs ++ news) → GB w w' (fun b => ob = some b) → (ob' = ob ∨ ob' = some w.heap.size) → K (a.put o.dst v') w') :
    if Region.wanted o (yielded ops a.tmps) = true then Oper.wp Try.prog o a w K Q else E := by
  have hw : Region.wanted o (yielded ops a.tmps) = true := by simp [Region.wanted, hgd]
  rw [if_pos hw]
  obtain ⟨i0, hi, hz0, hz1, hz2⟩ := info_parts cl_info
  rw [← hz1] at h hl
  obtain ⟨v', w', ob', hrun, r1, r2, r3⟩ := run_offS (P := Try.prog) w 82 o.type 63 i0 _ Try.underlying82 hi hz0 (by rw [hz1]; rfl) (by omega) h hn ad c news hl hr h1
  rw [hz1] at r1
  unfold Oper.wp
  simp [execOp, ho, resolve, invoke, builtin, hs, hx, hrun, Result.andThen]
  exact hK _ _ _ r1 r2 r3

theorem ConnAt.cells {w : World} {base gc r : Nat} {L : List (Option Nat)} {RO : Nat → Prop} {s : CSt} (h : ConnAt w base L RO gc r s) :
    ∃ ao cap ov, w.cell? ⟨gc, 1, none⟩ = some (.slice ao s.line.length cap) ∧ w.cell? ⟨gc, 2, none⟩ = some (.int .i64 (s.fin : Int)) ∧ w.cell? ⟨gc, 3, none⟩ = some ov ∧ w.cell? ⟨gc, 6, none⟩ = some (.bool s.closed) ∧ (∀ i, w.frozen? ⟨gc, i, none⟩ = false) ∧ OutAt1 w RO ov s.out ∧ gc < w.heap.size := by
  obtain ⟨S, lv, ov, lob, lk, tk, WA, TA, wn, wc, tn, tc, h1, h2, h3, h4, h5, h6, h7, h8, h9, h10, -⟩ := h
  obtain ⟨ao, cap, hlv, -, -, -⟩ := h7.shape
  rw [hlv] at h3
  exact ⟨ao, cap, ov, blk_cell h3 1, blk_cell h3 2, blk_cell h3 3, blk_cell h3 6, fun i => blk_frozen h3 i, h10, blk_lt h3⟩
theorem cl_slice (u : World) : (sizeOf 63).run Try.prog u = .ok 4 u := cl_size u
/-- the first call of the line goes out -/
theorem ConnAt.next {w : World} {base gc r : Nat} {L : List (Option Nat)} {RO : Nat → Prop} {s : CSt} (h : ConnAt w base L RO gc r s) {c : CCall} {rest : List CCall} (hl : s.line = c :: rest) :
    ∃ b off cap K kc v', w.cell? ⟨gc, 1, none⟩ = some (.slice (some ⟨b, off, none⟩) (rest.length + 1) cap) ∧
      w.cell? ⟨b, off, none⟩ = some (.int .u8 (c.op : Int)) ∧ w.cell? ⟨b, off + 1, none⟩ = some (.int .i64 (c.pol : Int)) ∧ w.cell? ⟨b, off + 2, none⟩ = some (.slice K c.key.length kc) ∧ w.cell? ⟨b, off + 3, none⟩ = some (.int .i64 (c.num : Int)) ∧
      c.key.length ≤ kc ∧ Rd w K (vals .u8 c.key) ∧ (∀ u : World, (Instr.slice 82 (.slice (some ⟨b, off, none⟩) (rest.length + 1) cap) (some (.int .i64 1)) none none).run Try.prog u = .ok v' u) ∧ (∃ ao' cap', v' = .slice ao' rest.length cap') ∧ KeyIn RO (K, kc) ∧
      ∀ (w1 : World) (o : Nat), Ext w w1 → w1.heap[o]? = some (.cells (callC (K, kc) c).toArray 63 (0, 0)) → w.heap.size ≤ o →
        ∃ L' RO', ConnAt ((w1.setCell ⟨gc, 1, none⟩ v').setCell ⟨gc, 3, none⟩ (.pointer (some ⟨o, 0, none⟩))) base L' RO' gc r { s with line := rest, out := some c } ∧ (∀ b, some b ∈ L' → some b ∈ L) ∧ ∀ b, RO' b → RO b ∨ b = o := by
  obtain ⟨S, lv, ov, lob, lk, tk, WA, TA, wn, wc, tn, tc, h1, h2, h3, h4, h5, h6, h7, h8, h9, h10, h11, h12, h13, h14, h15, h16, h17, h18, h19⟩ := h
  have h2' := h2
  rw [h1] at h2'
  obtain ⟨a1, a2, a3, a4⟩ := apart5 h2'
  rw [hl] at h6 h7 h8
  obtain ⟨k, lk', rfl⟩ : ∃ k lk', lk = k :: lk' := by
    cases lk with
    | nil => simp at h6
    | cons k t => exact ⟨k, t, rfl⟩
  obtain ⟨K, kc⟩ := k
  obtain ⟨ao, cap, hlv, -, -, hrd⟩ := h7.shape
  subst hlv
  have hcv : callsV ((K, kc) :: lk') (c :: rest) = callC (K, kc) c ++ callsV lk' rest := by unfold callsV; rw [List.zip_cons_cons, List.flatMap_cons]
  obtain ⟨b, off, rfl, hce⟩ := hrd (by rw [hcv]; simp [callC])
  rw [hcv] at hce h7
  obtain ⟨v', ob', hrun, hdr, hsub⟩ := OffS.drop (P := Try.prog) (t := 82) (e := 63) Try.underlying82 cl_size h7 1 (by simp) rfl
  obtain ⟨k1, k2⟩ := h8 ((K, kc), c) (by rw [List.zip_cons_cons]; exact List.mem_cons_self)
  have h7' : OffS w 4 ob' v' rest.length (callsV lk' rest) := by
    have : (callC (K, kc) c ++ callsV lk' rest).drop (1 * 4) = callsV lk' rest := by simp [callC]
    rw [this] at hdr
    simpa using hdr
  refine ⟨b, off, cap, K, kc, v', blk_cell h3 1, hce 0 _ rfl, hce 1 _ rfl, hce 2 _ rfl, hce 3 _ rfl, k1, k2, hrun, by obtain ⟨x1, x2, x3, _⟩ := h7'.shape; exact ⟨x1, x2, x3⟩, h9 (K, kc) List.mem_cons_self, fun w1 o x ho hsz => ?_⟩
  have hgc := (h19 gc (by rw [h1]; simp))
  have gx : GB w w1 (· = gc) := GB.of_ext _ x
  have g1 : GB w (w1.setCell ⟨gc, 1, none⟩ v') (· = gc) := gx.set gc 1 _ (.inl rfl)
  have g : GB w ((w1.setCell ⟨gc, 1, none⟩ v').setCell ⟨gc, 3, none⟩ (.pointer (some ⟨o, 0, none⟩))) (· = gc) := g1.set gc 3 _ (.inl rfl)
  have hog : o ≠ gc := fun e => by omega
  have hR : ∀ b, RO b → ¬ b = gc := fun b hb e => (h18 b hb).1 (by rw [h1, e]; simp)
  have hmem : ∀ b, some b ∈ [some gc, some r, ob', (Value.slice WA wn wc).ownBlock, (Value.slice TA tn tc).ownBlock] → some b ∈ L := by
    intro b hb
    rw [h1]
    rcases List.mem_cons.1 hb with e | hb
    · rw [e]; exact List.mem_cons_self
    · refine List.mem_cons_of_mem _ ?_
      rcases List.mem_cons.1 hb with e | hb
      · rw [e]; exact List.mem_cons_self
      · refine List.mem_cons_of_mem _ ?_
        rcases List.mem_cons.1 hb with e | hb
        · rw [hsub b e.symm]; exact List.mem_cons_self
        · exact List.mem_cons_of_mem _ hb
  have hgo : GB w1 ((w1.setCell ⟨gc, 1, none⟩ v').setCell ⟨gc, 3, none⟩ (.pointer (some ⟨o, 0, none⟩))) (· = gc) := ((GB.refl w1 (· = gc)).set gc 1 _ (.inl rfl)).set gc 3 _ (.inl rfl)
  refine ⟨[some gc, some r, ob', (Value.slice WA wn wc).ownBlock, (Value.slice TA tn tc).ownBlock], fun b => RO b ∨ b = o, ⟨S, v', .pointer (some ⟨o, 0, none⟩), ob', lk', tk, WA, TA, wn, wc, tn, tc, rfl, apart5_mk a1 (fun q e => a2 q (hsub q e)) (fun q e => ⟨(a3 q e).1, (a3 q e).2.1, fun e2 => (a3 q e).2.2 (hsub q e2)⟩) (fun q e => ⟨(a4 q e).1, (a4 q e).2.1, fun e2 => (a4 q e).2.2.1 (hsub q e2), (a4 q e).2.2.2⟩), ?_, IsRdr.gb h4 g (fun e => a1 e.symm) (fun b hb => hR b (h5 b hb)), fun b hb => .inl (h5 b hb), by simpa using h6, h7'.gb g (fun b e => (a2 b (hsub b e)).1), ?_, fun k hk a e => .inl (h9 k (List.mem_cons_of_mem _ hk) a e), ?_, h11, g.own h12 (fun b e => (a3 b e).1), h13, h14, g.own h15 (fun b e => (a4 b e).1), h16.gbk h17 g hR, fun k hk a e => .inl (h17 k hk a e), fun b hb => ?_, fun b hb => ?_⟩, hmem, fun b e => e⟩
  · exact blk_set (blk_set (blk_ext h3 x) 1 _) 3 _
  · have h8' : KeysRd w (fun c : CCall => c.key) lk' rest := fun p hp => h8 p (by rw [List.zip_cons_cons]; exact List.mem_cons_of_mem _ hp)
    exact h8'.gbk (fun k hk => h9 k (List.mem_cons_of_mem _ hk)) g hR
  · exact ⟨o, (K, kc), rfl, hgo.blk ho hog, k1, g.rd k2 (fun a e => hR _ (h9 (K, kc) List.mem_cons_self a e)), .inr rfl, fun a e => .inl (h9 (K, kc) List.mem_cons_self a e)⟩
  · rcases hb with hb | rfl
    · exact ⟨fun e => (h18 b hb).1 (hmem b e), (h18 b hb).2.1, Nat.lt_of_lt_of_le (h18 b hb).2.2 g.size⟩
    · refine ⟨fun e => ?_, by omega, Nat.lt_of_lt_of_le (blk_lt ho) hgo.size⟩
      have := (h19 b (hmem b e)).2
      omega
  · have := h19 b (hmem b hb)
    exact ⟨this.1, Nat.lt_of_lt_of_le this.2 g.size⟩
/-- closed, with nothing to do -/
theorem ConnAt.close {w : World} {base gc r : Nat} {L : List (Option Nat)} {RO : Nat → Prop} {s : CSt} (h : ConnAt w base L RO gc r s) :
    ConnAt (w.setCell ⟨gc, 6, none⟩ (.bool true)) base L RO gc r { s with closed := true } := by
  obtain ⟨S, lv, ov, lob, lk, tk, WA, TA, wn, wc, tn, tc, h1, h2, h3, h4, h5, h6, h7, h8, h9, h10, h11, h12, h13, h14, h15, h16, h17, h18, h19⟩ := h
  have h2' := h2
  rw [h1] at h2'
  obtain ⟨a1, a2, a3, a4⟩ := apart5 h2'
  have g : GB w (w.setCell ⟨gc, 6, none⟩ (.bool true)) (· = gc) := (GB.refl w (· = gc)).set gc 6 _ (.inl rfl)
  have hR : ∀ b, RO b → ¬ b = gc := fun b hb e => (h18 b hb).1 (by rw [h1, e]; simp)
  exact ⟨S, lv, ov, lob, lk, tk, WA, TA, wn, wc, tn, tc, h1, h2, blk_set h3 6 _, IsRdr.gb h4 g (fun e => a1 e.symm) (fun b hb => hR b (h5 b hb)), h5, h6, h7.gb g (fun b e => (a2 b e).1), h8.gbk h9 g hR, h9, h10.gbk g hR, h11, g.own h12 (fun b e => (a3 b e).1), h13, h14, g.own h15 (fun b e => (a4 b e).1), h16.gbk h17 g hR, h17, fun b hb => ⟨(h18 b hb).1, (h18 b hb).2.1, by simpa using (h18 b hb).2.2⟩, fun b hb => ⟨(h19 b hb).1, by simpa using (h19 b hb).2⟩⟩

theorem ConnAt.bounds {w : World} {base gc r : Nat} {L : List (Option Nat)} {RO : Nat → Prop} {s : CSt} (h : ConnAt w base L RO gc r s) : some gc ∈ L ∧ (∀ b, some b ∈ L → base ≤ b ∧ b < w.heap.size) ∧ ∀ b, RO b → some b ∉ L ∧ base ≤ b ∧ b < w.heap.size := by
  obtain ⟨S, lv, ov, lob, lk, tk, WA, TA, wn, wc, tn, tc, h1, h2, h3, h4, h5, h6, h7, h8, h9, h10, h11, h12, h13, h14, h15, h16, h17, h18, h19⟩ := h
  exact ⟨by rw [h1]; simp, h19, h18⟩
/-- a box that a call made is none of the connection's -/
theorem conn_go_end {w W w1 w2 w3 : World} {base gc r : Nat} {L L1 : List (Option Nat)} {RO RO1 : Nat → Prop} {s s2 : CSt} (h : ConnAt w base L RO gc r s) (x : Ext w W) (hW : w.heap.size < W.heap.size) (k2 : GB W w1 (fun b => some b ∈ L)) (k3 : ∀ b, some b ∈ L1 → some b ∈ L ∨ W.heap.size ≤ b) (k4 : ∀ b, RO1 b → RO b ∨ some b ∈ L ∨ W.heap.size ≤ b)
    (k : ConnAt w2 base L1 RO1 gc r s2) (g2 : GB w1 w2 (· = gc)) (g3 : GB w2 w3 (· = w.heap.size)) : ConnGo w base L RO gc r s2 w3 := by
  obtain ⟨b1, b2, b3⟩ := h.bounds
  have n1 : some w.heap.size ∉ L := fun e => Nat.lt_irrefl _ (b2 _ e).2
  refine ⟨L1, RO1, k.gb g3 (fun b e => ?_), ?_, fun b e => (k3 b e).imp id (fun e => Nat.le_trans x.size e), fun b e => (k4 b e).imp id (fun e => e.imp id (fun e => Nat.le_trans x.size e))⟩
  · subst e
    refine ⟨fun e => (k3 _ e).elim (fun e => n1 e) (fun e => by omega), fun e => (k4 _ e).elim (fun e => Nat.lt_irrefl _ (b3 _ e).2.2) (fun e => e.elim (fun e => n1 e) (fun e => by omega))⟩
  · exact ((GB.back x k2).trans g2 (fun i e => .inl (by rw [e]; exact b1))).trans g3 (fun i e => .inr (Nat.le_of_eq e.symm))
set_option maxHeartbeats 2000000 in
set_option maxRecDepth 100000 in
/-- one is out -/
theorem cnext_busy (w : World) (base gc r : Nat) (L : List (Option Nat)) (RO : Nat → Prop) (s : CSt) (h : ConnAt w base L RO gc r s) (c : CCall) (ho : s.out = some c) :
    Calls Try.prog 50 #[.pointer (some ⟨gc, 0, none⟩)] w (RetE (.tuple #[callZ, .int .i64 9]) w) := by
  obtain ⟨ao, cap, ov, c1, c2, c3, c6, -, o1, -⟩ := h.cells
  rw [ho] at o1
  obtain ⟨o, k, rfl, -⟩ := o1
  obtain ⟨cl, hcl⟩ : ∃ x, s.closed = x := ⟨_, rfl⟩
  rw [hcl] at c6
  have xa : Ext w (w.alloc (.cells #[.int .u8 0, .int .i64 0, .slice none 0 0, .int .i64 0] 63)) := (Ext.refl w).alloc _
  have d3 := ext_cell xa c3; have d6 := ext_cell xa c6
  clear h hcl c1 c2 c3 c6 ho
  cases cl
  all_goals
    go_enter Try.func50, Try.ntmps50
    go_wp2_with fail
    refine bodyPost_ret (results_row_tmp (p := 2) (u := 3) rfl _ _ w.heap.size _ #[.int .u8 0, .int .i64 0, .slice none 0 0, .int .i64 0] (0, 0) _ rfl (blk_new w _) Try.underlying63 (by rfl) (by kernel_rfl)) rfl ?_
    exact ⟨rfl, (Ext.refl w).alloc _⟩
set_option maxHeartbeats 2000000 in
set_option maxRecDepth 100000 in
/-- closed -/
theorem cnext_closed (w : World) (base gc r : Nat) (L : List (Option Nat)) (RO : Nat → Prop) (s : CSt) (h : ConnAt w base L RO gc r s) (ho : s.out = none) (hc : s.closed = true) :
    Calls Try.prog 50 #[.pointer (some ⟨gc, 0, none⟩)] w (RetE (.tuple #[callZ, .int .i64 13]) w) := by
  obtain ⟨ao, cap, ov, c1, c2, c3, c6, -, o1, -⟩ := h.cells
  rw [ho] at o1
  obtain rfl := o1
  rw [hc] at c6
  have xa : Ext w (w.alloc (.cells #[.int .u8 0, .int .i64 0, .slice none 0 0, .int .i64 0] 63)) := (Ext.refl w).alloc _
  have d3 := ext_cell xa c3; have d6 := ext_cell xa c6
  clear h hc c1 c2 c3 c6 ho
  go_enter Try.func50, Try.ntmps50
  go_wp2_with fail
  refine bodyPost_ret (results_row_tmp (p := 2) (u := 3) rfl _ _ w.heap.size _ #[.int .u8 0, .int .i64 0, .slice none 0 0, .int .i64 0] (0, 0) _ rfl (blk_new w _) Try.underlying63 (by rfl) (by kernel_rfl)) rfl ?_
  exact ⟨rfl, (Ext.refl w).alloc _⟩
set_option maxHeartbeats 2000000 in
set_option maxRecDepth 100000 in
/-- nothing has come -/
theorem cnext_idle (w : World) (base gc r : Nat) (L : List (Option Nat)) (RO : Nat → Prop) (s : CSt) (h : ConnAt w base L RO gc r s) (ho : s.out = none) (hc : s.closed = false) (hl : s.line = []) (hf : s.fin = 0) :
    Calls Try.prog 50 #[.pointer (some ⟨gc, 0, none⟩)] w (RetE (.tuple #[callZ, .int .i64 7]) w) := by
  obtain ⟨ao, cap, ov, c1, c2, c3, c6, -, o1, -⟩ := h.cells
  rw [ho] at o1
  obtain rfl := o1
  rw [hc] at c6
  rw [hl] at c1
  rw [hf] at c2
  simp only [List.length_nil] at c1
  have xa : Ext w (w.alloc (.cells #[.int .u8 0, .int .i64 0, .slice none 0 0, .int .i64 0] 63)) := (Ext.refl w).alloc _
  have d1 : (w.alloc (.cells #[.int .u8 0, .int .i64 0, .slice none 0 0, .int .i64 0] 63)).cell? ⟨gc, 1, none⟩ = some (.slice ao 0 cap) := ext_cell xa c1
  have d2 : (w.alloc (.cells #[.int .u8 0, .int .i64 0, .slice none 0 0, .int .i64 0] 63)).cell? ⟨gc, 2, none⟩ = some (.int .i64 0) := ext_cell xa c2
  have d3 := ext_cell xa c3; have d6 := ext_cell xa c6
  clear h hc c1 c2 c3 c6 ho hl hf
  go_enter Try.func50, Try.ntmps50
  go_wp2_with fail
  refine bodyPost_ret (results_row_tmp (p := 2) (u := 3) rfl _ _ w.heap.size _ #[.int .u8 0, .int .i64 0, .slice none 0 0, .int .i64 0] (0, 0) _ rfl (blk_new w _) Try.underlying63 (by rfl) (by kernel_rfl)) rfl ?_
  exact ⟨rfl, (Ext.refl w).alloc _⟩
set_option maxHeartbeats 2000000 in
set_option maxRecDepth 100000 in
/-- what stands behind the line is answered, and it is closed -/
theorem cnext_end (w : World) (base gc r : Nat) (L : List (Option Nat)) (RO : Nat → Prop) (s : CSt) (h : ConnAt w base L RO gc r s) (hwr : s.wr.length ≤ 1000000) (ho : s.out = none) (hc : s.closed = false) (hl : s.line = []) (e : Nat) (hf : s.fin = e) (he0 : e ≠ 0) (he : e ≤ 16) :
    Calls Try.prog 50 #[.pointer (some ⟨gc, 0, none⟩)] w fun x w' => ∃ q B, RepIs (e : Int) false [0, 0, 0, 0] q B ∧ x = .returned (.tuple #[callZ, .int .i64 13]) ∧ ConnGo w base L RO gc r { wrote s q B with closed := true } w' := by
  obtain ⟨ao, cap, ov, c1, c2, c3, c6, -, o1, hgl⟩ := h.cells
  rw [ho] at o1
  obtain rfl := o1
  rw [hc] at c6
  rw [hl] at c1
  rw [hf] at c2
  simp only [List.length_nil] at c1
  have xa : Ext w (w.alloc (.cells #[.int .u8 0, .int .i64 0, .slice none 0 0, .int .i64 0] 63)) := (Ext.refl w).alloc _
  have HW := Lib.hid (blk_new w (.cells #[.int .u8 0, .int .i64 0, .slice none 0 0, .int .i64 0] 63))
  obtain ⟨W, hW⟩ : ∃ W, w.alloc (.cells #[.int .u8 0, .int .i64 0, .slice none 0 0, .int .i64 0] 63) = W := ⟨_, rfl⟩
  rw [hW] at xa HW
  have d1 : W.cell? ⟨gc, 1, none⟩ = some (.slice ao 0 cap) := ext_cell xa c1
  have d2 : W.cell? ⟨gc, 2, none⟩ = some (.int .i64 (e : Int)) := ext_cell xa c2
  have d3 := ext_cell xa c3; have d6 := ext_cell xa c6
  have hne : ((e : Int) != 0) = true := by simpa using he0
  have PU := Lib.hid (fun u (x : Ext w u) => cput_any u base gc r L RO s (h.ext x) hwr e he false 0 0 0 0)
  have H := Lib.hid h
  have hL0 : some w.heap.size ∉ L := fun e => by
    obtain ⟨S, lv, ov, lob, lk, tk, WA, TA, wn, wc, tn, tc, h1, h2, h3, h4, h5, h6, h7, h8, h9, h10, h11, h12, h13, h14, h15, h16, h17, h18, h19⟩ := h
    exact Nat.lt_irrefl _ (h19 _ e).2
  have HL0 := Lib.hid hL0
  have XA := Lib.hid xa
  clear h hc c1 c2 c3 c6 ho hl hf hL0 xa
  go_enter Try.func50, Try.ntmps50
  go_upto_region 1 with fail
  (try rw [hW])
  clear hW
  go_wp2_with fail
  refine (PU.out _ (by first | exact XA.out | exact XA.out.drew)).mono ?_
  rintro x w1 ⟨q, B, hri, rfl, hgo⟩
  have HRI := Lib.hid hri
  obtain ⟨L1, RO1, k1, k2, k3, k4⟩ := hgo
  obtain ⟨ao1, cap1, ov1, -, -, -, d6, fz, -, hgl1⟩ := k1.cells
  have f6 := fz 6
  have K9 := Lib.hid k1.close
  have GB1 := Lib.hid k2; have K3 := Lib.hid k3; have K4 := Lib.hid k4
  obtain ⟨cl, hcl⟩ : ∃ b, (wrote s q B).closed = b := ⟨_, rfl⟩
  rw [hcl] at d6
  clear hcl hri k1 k2 k3 k4 fz d1 d2 d3
  have z1 : w1.heap[w.heap.size]? = some (.cells #[.int .u8 0, .int .i64 0, .slice none 0 0, .int .i64 0] 63 (0, 0)) := GB1.out.blk HW.out HL0.out
  have y0 := blk_cell z1 0; have y1 := blk_cell z1 1; have y2 := blk_cell z1 2; have y3 := blk_cell z1 3
  have e0 := blk_frozen z1 0; have e1 := blk_frozen z1 1; have e2 := blk_frozen z1 2; have e3 := blk_frozen z1 3
  go_wp2_with fail
  have g2 : GB w1 (w1.setCell ⟨gc, 6, none⟩ (.bool true)) (· = gc) := (GB.refl w1 (· = gc)).set gc 6 _ (.inl rfl)
  have hng : ¬ w.heap.size = gc := by omega
  refine bodyPost_ret (results_row_tmp (p := 2) (u := 3) rfl _ _ w.heap.size _ #[.int .u8 0, .int .i64 0, .slice none 0 0, .int .i64 0] (0, 0) _ rfl (blk_set (blk_set (blk_set (blk_set (g2.blk z1 hng) 0 _) 1 _) 2 _) 3 _) Try.underlying63 (by rfl) (by kernel_rfl)) rfl ?_
  exact ⟨q, B, HRI.out, rfl, conn_go_end H.out XA.out (blk_lt HW.out) GB1.out K3.out K4.out K9.out g2 (((((GB.refl _ (· = w.heap.size)).set _ 0 _ (.inl rfl)).set _ 1 _ (.inl rfl)).set _ 2 _ (.inl rfl)).set _ 3 _ (.inl rfl))⟩

/-- a call that was answered -/
def CallNew (c : CCall) (v : Value) : Prop := ∃ A k, v = .agg #[.int .u8 (c.op : Int), .int .i64 (c.pol : Int), .slice A c.key.length k, .int .i64 (c.num : Int)]
theorem cell_far {w : World} {b b' i j : Nat} {v x : Value} (h : w.cell? ⟨b', j, none⟩ = some v) (hne : ¬ b' = b) : (w.setCell ⟨b, i, none⟩ x).cell? ⟨b', j, none⟩ = some v := ((GB.refl w (· = b)).set b i x (.inl rfl)).cell h hne
theorem cell_far4 {w : World} {b b' j : Nat} {v x0 x1 x2 x3 : Value} (h : w.cell? ⟨b', j, none⟩ = some v) (hne : ¬ b' = b) : ((((w.setCell ⟨b, 0, none⟩ x0).setCell ⟨b, 1, none⟩ x1).setCell ⟨b, 2, none⟩ x2).setCell ⟨b, 3, none⟩ x3).cell? ⟨b', j, none⟩ = some v := cell_far (cell_far (cell_far (cell_far h hne) hne) hne) hne
set_option maxHeartbeats 4000000 in
set_option maxRecDepth 100000 in
theorem cnext_call (w : World) (base gc r : Nat) (L : List (Option Nat)) (RO : Nat → Prop) (s : CSt) (h : ConnAt w base L RO gc r s) (ho : s.out = none) (hc : s.closed = false) (c : CCall) (rest : List CCall) (hl : s.line = c :: rest) (hk : c.key.length ≤ 5000) :
    Calls Try.prog 50 #[.pointer (some ⟨gc, 0, none⟩)] w fun x w' => ∃ v, x = .returned (.tuple #[v, .int .i64 0]) ∧ CallNew c v ∧ ConnGo w base L RO gc r { s with line := rest, out := some c } w' := by
  obtain ⟨W, hW⟩ : ∃ W, w.alloc (.cells #[.int .u8 0, .int .i64 0, .slice none 0 0, .int .i64 0] 63) = W := ⟨_, rfl⟩
  have xW : Ext w W := by rw [← hW]; exact (Ext.refl w).alloc _
  have KW := Lib.hid (show W.heap[w.heap.size]? = some (.cells #[.int .u8 0, .int .i64 0, .slice none 0 0, .int .i64 0] 63 (0, 0)) by rw [← hW]; exact blk_new w _)
  obtain ⟨ao, cp, ov, d1, -, d3, d6, fz, o1, hgl⟩ := (h.ext xW).cells
  rw [ho] at o1
  obtain rfl := o1
  rw [hc] at d6
  rw [hl] at d1
  simp only [List.length_cons] at d1
  have f1 := fz 1; have f3 := fz 3
  obtain ⟨b, off, cap, K, kc, v', d1', q0, q1, q2, q3, hkc, hrd, hrun, ⟨va, vc, rfl⟩, hki, hgo⟩ := (h.ext xW).next hl
  rw [d1] at d1'
  injection d1' with d1'
  injection d1' with e1 _ e2
  subst e1 e2
  obtain ⟨op, pol, key, num⟩ := c
  dsimp only [callC] at q0 q1 q2 q3 hkc hrd hgo hk ⊢
  obtain ⟨m, Hm⟩ : ∃ m, Hid (key.length = m) := ⟨_, rfl⟩
  rw [Hm.out] at q2 hkc hgo hk
  obtain ⟨n, Hn⟩ : ∃ n, Hid (rest.length = n) := ⟨_, rfl⟩
  rw [Hn.out] at d1 hrun hgo
  obtain ⟨V, hV⟩ : ∃ V, W.alloc (.cells #[.int .u8 (op : Int), .int .i64 (pol : Int), .slice K m kc, .int .i64 (num : Int)] 63) = V := ⟨_, rfl⟩
  have xV : Ext W V := by rw [← hV]; exact (Ext.refl W).alloc _
  have KV := Lib.hid (show V.heap[W.heap.size]? = some (.cells #[.int .u8 (op : Int), .int .i64 (pol : Int), .slice K m kc, .int .i64 (num : Int)] 63 (0, 0)) by rw [← hV]; exact blk_new W _)
  obtain ⟨L', RO', k1, k2, k3⟩ := hgo V W.heap.size xV KV.out (Nat.le_refl _)
  have K1 := Lib.hid k1; have K2 := Lib.hid k2; have K3 := Lib.hid k3
  have H := Lib.hid h; have XW := Lib.hid xW; have XV := Lib.hid xV; have HRD := Lib.hid hrd
  have e1 : V.cell? ⟨gc, 1, none⟩ = some (.slice (some ⟨b, off, none⟩) (n + 1) cp) := ext_cell xV d1
  have e3 := ext_cell xV d3
  have h1 := frz_ext2 xV d1 f1; have h3 := frz_ext2 xV d3 f3
  clear h ho hc hl fz hrd hgo k1 k2 k3 xW xV
  go_enter Try.func50, Try.ntmps50
  go_upto_region 1 with fail
  (try rw [hW])
  clear hW
  go_upto_region 11 with fail
  (try rw [hV])
  clear hV d1 d3 q0 q1 q2 q3
  go_upto_region 13 with fail
  obtain ⟨X, hX⟩ : ∃ X, (V.setCell ⟨gc, 1, none⟩ (.slice va n vc)).setCell ⟨gc, 3, none⟩ (.pointer (some ⟨W.heap.size, 0, none⟩)) = X := ⟨_, rfl⟩
  have gX : GB V X (· = gc) := by rw [← hX]; exact ((GB.refl V (· = gc)).set gc 1 _ (.inl rfl)).set gc 3 _ (.inl rfl)
  rw [hX] at K1
  (try rw [hX])
  clear hX
  have ng0 : ¬ w.heap.size = gc := by have := (H.out.bounds.2.1 gc H.out.bounds.1).2; omega
  have ng1 : ¬ W.heap.size = gc := by omega
  have x4 := gX.blk KV.out ng1
  have x2 := gX.blk (blk_ext KW.out XV.out) ng0
  have X2 := Lib.hid x2
  have nb : ¬ W.heap.size = w.heap.size := by have := blk_lt KW.out; omega
  have a0 : X.cell? ⟨W.heap.size, 0, none⟩ = some (.int .u8 (op : Int)) := blk_cell x4 0
  have a1 : X.cell? ⟨W.heap.size, 1, none⟩ = some (.int .i64 (pol : Int)) := blk_cell x4 1
  have a2 : X.cell? ⟨W.heap.size, 2, none⟩ = some (.slice K m kc) := blk_cell x4 2
  have a3 : X.cell? ⟨W.heap.size, 3, none⟩ = some (.int .i64 (num : Int)) := blk_cell x4 3
  have CL := Lib.hid (fun u (y : Ext X u) => clone_any K m kc key u Hm.out (by omega) ((gX.rd (HRD.out.ext XV.out) (fun p hp e => (H.out.bounds.2.2 _ (hki p hp)).1 (by rw [e]; exact H.out.bounds.1))).ext y))
  have GX := Lib.hid gX
  clear e1 e3 h1 h3 f1 f3 x4 x2 gX d6
  go_region_held3 (fun u => u.cell? ⟨W.heap.size, 0, none⟩ = some (.int .u8 (op : Int)) ∧ u.cell? ⟨W.heap.size, 1, none⟩ = some (.int .i64 (pol : Int)) ∧ u.cell? ⟨W.heap.size, 2, none⟩ = some (.slice K m kc) ∧ u.cell? ⟨W.heap.size, 3, none⟩ = some (.int .i64 (num : Int)))
    (((try dsimp only); refine ⟨?_, ?_, ?_, ?_⟩ <;> first | (with_reducible assumption) | (with_reducible exact drew_cell a0) | (with_reducible exact drew_cell a1) | (with_reducible exact drew_cell a2) | (with_reducible exact drew_cell a3) | (with_reducible exact cell_far4 b0 nb) | (with_reducible exact cell_far4 b1 nb) | (with_reducible exact cell_far4 b2 nb) | (with_reducible exact cell_far4 b3 nb)))
    (first | (go_at_call 61; (with_reducible refine (CL.out _ (by first | exact Ext.refl X | exact (Ext.refl X).drew)).mono ?_); rintro e w4 ⟨A4, c4, rfl, ho4, y0⟩; have y := (Ext.refl X).drew.trans y0; rw [Hm.out]; have Y := Lib.hid y; have k4 := blk_ext X2.out y; have b0 := ext_cell y a0; have b1 := ext_cell y a1; have b2 := ext_cell y a2; have b3 := ext_cell y a3; have z0 := blk_cell k4 0; have z1 := blk_cell k4 1; have z2 := blk_cell k4 2; have z3 := blk_cell k4 3; have t0 := blk_frozen k4 0; have t1 := blk_frozen k4 1; have t2 := blk_frozen k4 2; have t3 := blk_frozen k4 3; have K4 := Lib.hid k4; clear ho4 y y0 k4))
  all_goals
    have hb1 := blk_set (blk_set (blk_set (blk_set K4.out 0 (.int .u8 (op : Int))) 1 (.int .i64 (pol : Int))) 2 (.slice A4 m c4)) 3 (.int .i64 (num : Int))
    go_wp2_with fail
    refine bodyPost_ret (results_row_tmp (p := 2) (u := 3) rfl _ _ w.heap.size _ #[.int .u8 (op : Int), .int .i64 (pol : Int), .slice A4 m c4, .int .i64 (num : Int)] (0, 0) _ rfl hb1 Try.underlying63 (by rfl) (by kernel_rfl)) rfl ?_
    refine ⟨_, rfl, ⟨A4, c4, by rw [Hm.out]⟩, conn_go_end H.out XW.out (blk_lt KW.out) (GB.of_ext _ XV.out) (fun b e => .inl (K2.out b e)) (fun b e => (K3.out b e).imp id (fun e => .inr (Nat.le_of_eq e.symm))) (K1.out.ext Y.out) (GX.out.ext Y.out) (((((GB.refl _ (· = w.heap.size)).set _ 0 _ (.inl rfl)).set _ 1 _ (.inl rfl)).set _ 2 _ (.inl rfl)).set _ 3 _ (.inl rfl))⟩

set_option maxHeartbeats 2000000 in
set_option maxRecDepth 100000 in
/-- Reply with nothing out -/
theorem creply_idle (w : World) (base gc r : Nat) (L : List (Option Nat)) (RO : Nat → Prop) (s : CSt) (h : ConnAt w base L RO gc r s) (ho : s.out = none) (e : Int) (g : Bool) (l t sn nw : Int) :
    Calls Try.prog 52 #[.pointer (some ⟨gc, 0, none⟩), .agg #[.int .i64 e, .bool g, .int .i64 l, .int .i64 t, .int .i64 sn, .int .i64 nw]] w fun x w' => ∃ q B, RepIs e g [l, t, sn, nw] q B ∧ x = .returned (.int .i64 (if q = 0 then 7 else q)) ∧ Ext w w' := by
  have RP := Lib.hid (fun u => show Calls Try.prog 42 #[.agg #[.int .i64 e, .bool g, .int .i64 l, .int .i64 t, .int .i64 sn, .int .i64 nw]] u (RetRep e g [l, t, sn, nw] u) from by
    by_cases he : e < 0 ∨ 16 < e
    · refine (reply_e u e g l t sn nw he).mono ?_
      intro x w' h
      exact ⟨1, [], .inl ⟨rfl, rfl, fun h => by omega⟩, h⟩
    · obtain ⟨k, rfl⟩ : ∃ k : Nat, e = (k : Int) := ⟨e.toNat, by omega⟩
      cases g
      · exact reply_false u k l t sn nw (by omega)
      · exact reply_true u k l t sn nw (by omega))
  obtain ⟨W, hW⟩ : ∃ W, w.alloc (.cells #[.int .i64 e, .bool g, .int .i64 l, .int .i64 t, .int .i64 sn, .int .i64 nw] 74) = W := ⟨_, rfl⟩
  have xW : Ext w W := by rw [← hW]; exact (Ext.refl w).alloc _
  have KP := Lib.hid (show W.heap[w.heap.size]? = some (.cells #[.int .i64 e, .bool g, .int .i64 l, .int .i64 t, .int .i64 sn, .int .i64 nw] 74 (0, 0)) by rw [← hW]; exact blk_new w _)
  obtain ⟨ao, cp, ov, -, -, d3, -, -, o1, -⟩ := (h.ext xW).cells
  rw [ho] at o1
  obtain rfl := o1
  have XW := Lib.hid xW
  clear xW h ho
  go_enter Try.func52, Try.ntmps52
  go_upto_region 1 with fail
  (try rw [hW])
  clear hW
  have p0 : W.cell? ⟨w.heap.size, 0, none⟩ = some (.int .i64 e) := blk_cell KP.out 0
  have p1 : W.cell? ⟨w.heap.size, 1, none⟩ = some (.bool g) := blk_cell KP.out 1
  have p2 : W.cell? ⟨w.heap.size, 2, none⟩ = some (.int .i64 l) := blk_cell KP.out 2
  have p3 : W.cell? ⟨w.heap.size, 3, none⟩ = some (.int .i64 t) := blk_cell KP.out 3
  have p4 : W.cell? ⟨w.heap.size, 4, none⟩ = some (.int .i64 sn) := blk_cell KP.out 4
  have p5 : W.cell? ⟨w.heap.size, 5, none⟩ = some (.int .i64 nw) := blk_cell KP.out 5
  go_wp2_with fail
  refine (RP.out W).mono ?_
  rintro x w1 ⟨q, B, hri, A1, c1, rfl, o1, x1⟩
  clear p0 p1 p2 p3 p4 p5 d3
  have X1 := Lib.hid (XW.out.trans x1)
  have HRI := Lib.hid hri
  rcases hri with ⟨rfl, rfl, -⟩ | ⟨rfl, -⟩
  · clear x1 o1
    go_wp2_with fail
    go_ret
    exact ⟨1, [], HRI.out, rfl, X1.out⟩
  · clear x1 o1
    go_wp2_with fail
    go_ret
    exact ⟨0, B, HRI.out, rfl, X1.out⟩

theorem conn_go_then {w w1 w2 : World} {base gc r : Nat} {L L1 : List (Option Nat)} {RO RO1 : Nat → Prop} {s2 : CSt} (k2 : GB w w1 (fun b => some b ∈ L)) (k3 : ∀ b, some b ∈ L1 → some b ∈ L ∨ w.heap.size ≤ b) (k4 : ∀ b, RO1 b → RO b ∨ some b ∈ L ∨ w.heap.size ≤ b) (h : ConnGo w1 base L1 RO1 gc r s2 w2) : ConnGo w base L RO gc r s2 w2 := by
  obtain ⟨L2, RO2, h1, h2, h3, h4⟩ := h
  have hs := k2.size
  refine ⟨L2, RO2, h1, k2.trans h2 k3, fun b e => ?_, fun b e => ?_⟩
  · rcases h3 b e with e | e
    · exact k3 b e
    · exact .inr (by omega)
  · rcases h4 b e with e | e | e
    · exact k4 b e
    · exact .inr (k3 b e)
    · exact .inr (.inr (by omega))
theorem zipV_erase {α : Type} (f : KRef → α → List Value) (s : Nat) (hf : ∀ k x, (f k x).length = s) : ∀ (ks : List KRef) (l : List α) (i : Nat), ks.length = l.length → i < l.length → ((ks.eraseIdx i).zip (l.eraseIdx i)).flatMap (fun p => f p.1 p.2) = delF s ((ks.zip l).flatMap fun p => f p.1 p.2) i
  | [], [], _, _, h => by simp at h
  | [], _ :: _, _, h, _ => by cases h
  | _ :: _, [], _, h, _ => by cases h
  | k :: ks, x :: l, 0, _, _ => by
    unfold delF
    rw [List.zip_cons_cons, List.flatMap_cons, Nat.zero_mul, List.take_zero, Nat.zero_add, List.drop_left' (hf k x)]
    rfl
  | k :: ks, x :: l, i + 1, h, hi => by
    have ih := zipV_erase f s hf ks l i (by simpa using h) (by simpa using hi)
    unfold delF at ih ⊢
    rw [List.eraseIdx_cons_succ, List.eraseIdx_cons_succ, List.zip_cons_cons, List.flatMap_cons, ih, List.zip_cons_cons, List.flatMap_cons, ← List.append_assoc]
    have h1 : (f k x ++ (ks.zip l).flatMap fun p => f p.1 p.2).take ((i + 1) * s) = f k x ++ ((ks.zip l).flatMap fun p => f p.1 p.2).take (i * s) := by
      rw [show (i + 1) * s = (f k x).length + i * s by rw [hf, Nat.add_mul, Nat.one_mul, Nat.add_comm], List.take_length_add_append]
    have h2 : (f k x ++ (ks.zip l).flatMap fun p => f p.1 p.2).drop ((i + 1) * s + s) = ((ks.zip l).flatMap fun p => f p.1 p.2).drop (i * s + s) := by
      rw [show (i + 1) * s + s = (f k x).length + (i * s + s) by rw [hf, Nat.add_mul, Nat.one_mul]; omega, List.drop_length_add_append]
    rw [h1, h2]
theorem zip_erase_sub {α β : Type} : ∀ (ks : List α) (l : List β) (i : Nat), ks.length = l.length → ∀ p ∈ (ks.eraseIdx i).zip (l.eraseIdx i), p ∈ ks.zip l
  | [], [], _, _, p, h => by simp at h
  | [], _ :: _, _, h, _, _ => by cases h
  | _ :: _, [], _, h, _, _ => by cases h
  | k :: ks, x :: l, 0, _, p, hp => by
    rw [List.zip_cons_cons]
    exact List.mem_cons_of_mem _ hp
  | k :: ks, x :: l, i + 1, h, p, hp => by
    rw [List.eraseIdx_cons_succ, List.eraseIdx_cons_succ, List.zip_cons_cons] at hp
    rw [List.zip_cons_cons]
    rcases List.mem_cons.1 hp with hp | hp
    · rw [hp]; exact List.mem_cons_self
    · exact List.mem_cons_of_mem _ (zip_erase_sub ks l i (by simpa using h) p hp)
theorem toks_one {ks : List KRef} {l : List CTok} : ∀ u ∈ toksV ks l, u.oneCell' = true := fun u hu => by
  unfold toksV at hu
  obtain ⟨p, _, hp⟩ := List.mem_flatMap.1 hu
  simp [tokC] at hp
  rcases hp with rfl | rfl | rfl <;> rfl
theorem idx_lt {c : CCall} : ∀ {l : List CTok} {i : Nat}, idxT c l = some i → i < l.length
  | [], _, h => by cases h
  | t :: l, i, h => by
    unfold idxT at h
    split at h
    · injection h with h
      subst h
      simp
    · cases hx : idxT c l with
      | none => rw [hx] at h; cases h
      | some j =>
        rw [hx] at h
        injection h with h
        subst h
        have := idx_lt hx
        simpa using this
/-- the call that was out is answered -/
def repliedS (s : CSt) (c : CCall) (e sn : Int) (B : List Nat) : CSt :=
  if e = 0 then
    (if c.op = 2 then { wrote s 0 B with out := none, led := s.led ++ [⟨(c.pol : Int), c.key, sn⟩] }
    else if c.op = 3 then { wrote s 0 B with out := none, led := match idxT c s.led with | none => s.led | some i => s.led.eraseIdx i }
    else { wrote s 0 B with out := none })
  else { wrote s 0 B with out := none }
theorem wrote_led (s : CSt) (q : Int) (B : List Nat) : (wrote s q B).led = s.led := by unfold wrote; split <;> rfl
theorem wrote_out (s : CSt) (q : Int) (B : List Nat) : (wrote s q B).out = s.out := by unfold wrote; split <;> rfl
theorem wrote_one (s : CSt) (B : List Nat) : wrote s 1 B = s := by unfold wrote; rw [if_neg (by omega)]
def ReplyR (w : World) (base : Nat) (L : List (Option Nat)) (RO : Nat → Prop) (gc r : Nat) (s : CSt) (c : CCall) (e : Int) (g : Bool) (N : List Int) (sn : Int) (x : Ending) (w' : World) : Prop :=
  ∃ q B, RepIs e g N q B ∧ x = .returned (.int .i64 q) ∧ ConnGo w base L RO gc r (if q = 0 then repliedS s c e sn B else s) w'
set_option maxHeartbeats 8000000 in
set_option maxRecDepth 100000 in
theorem creply_call (w : World) (base gc r : Nat) (L : List (Option Nat)) (RO : Nat → Prop) (s : CSt) (h : ConnAt w base L RO gc r s) (hi : CInv s) (hwr : s.wr.length ≤ 1000000) (hled : s.led.length ≤ 100000 - 1) (c : CCall) (ho : s.out = some c) (e : Nat) (he : e ≤ 16) (g : Bool) (l t sn nw : Int) :
    Calls Try.prog 52 #[.pointer (some ⟨gc, 0, none⟩), .agg #[.int .i64 (e : Int), .bool g, .int .i64 l, .int .i64 t, .int .i64 sn, .int .i64 nw]] w (ReplyR w base L RO gc r s c (e : Int) g [l, t, sn, nw] sn) := by
  obtain ⟨W, hW⟩ : ∃ W, w.alloc (.cells #[.int .i64 (e : Int), .bool g, .int .i64 l, .int .i64 t, .int .i64 sn, .int .i64 nw] 74) = W := ⟨_, rfl⟩
  have xW : Ext w W := by rw [← hW]; exact (Ext.refl w).alloc _
  have KP := Lib.hid (show W.heap[w.heap.size]? = some (.cells #[.int .i64 (e : Int), .bool g, .int .i64 l, .int .i64 t, .int .i64 sn, .int .i64 nw] 74 (0, 0)) by rw [← hW]; exact blk_new w _)
  have PU := Lib.hid (cput_any W base gc r L RO s (h.ext xW) hwr e he g l t sn nw)
  obtain ⟨ao, cp, ov, -, -, d3, -, -, o1, -⟩ := (h.ext xW).cells
  rw [ho] at o1
  obtain ⟨o, kk, rfl, -⟩ := o1
  have hL0 : some w.heap.size ∉ L := fun e => Nat.lt_irrefl _ (h.bounds.2.1 _ e).2
  have HL0 := Lib.hid hL0; have XW := Lib.hid xW; have H := Lib.hid h; have HI := Lib.hid hi; have HO := Lib.hid ho
  clear h hi ho xW hL0
  go_enter Try.func52, Try.ntmps52
  go_upto_region 1 with fail
  (try rw [hW])
  clear hW
  have p0 : W.cell? ⟨w.heap.size, 0, none⟩ = some (.int .i64 (e : Int)) := blk_cell KP.out 0
  have p1 : W.cell? ⟨w.heap.size, 1, none⟩ = some (.bool g) := blk_cell KP.out 1
  have p2 : W.cell? ⟨w.heap.size, 2, none⟩ = some (.int .i64 l) := blk_cell KP.out 2
  have p3 : W.cell? ⟨w.heap.size, 3, none⟩ = some (.int .i64 t) := blk_cell KP.out 3
  have p4 : W.cell? ⟨w.heap.size, 4, none⟩ = some (.int .i64 sn) := blk_cell KP.out 4
  have p5 : W.cell? ⟨w.heap.size, 5, none⟩ = some (.int .i64 nw) := blk_cell KP.out 5
  go_wp2_with fail
  refine PU.out.mono ?_
  rintro x w1 ⟨q, B, hri, rfl, L1, RO1, k1, k2, k3, k4⟩
  have HRI := Lib.hid hri
  have K1 := Lib.hid k1; have K2 := Lib.hid k2; have K3 := Lib.hid k3; have K4 := Lib.hid k4
  have kp := k2.blk KP.out HL0.out
  have KP1 := Lib.hid kp
  clear p0 p1 p2 p3 p4 p5 d3 k2 k3 k4
  rcases hri with ⟨rfl, rfl, -⟩ | ⟨rfl, -⟩
  · clear k1 kp
    go_wp2_with fail
    go_ret
    refine ⟨1, [], HRI.out, rfl, ?_⟩
    rw [if_neg (by omega)]
    have := K1.out
    rw [wrote_one] at this
    exact ConnGo.back XW.out ⟨L1, RO1, this, K2.out, K3.out, K4.out⟩
  · obtain ⟨ao1, cp1, ov1, -, -, d3, -, fz, o1, hgl⟩ := k1.cells
    rw [wrote_out, HO.out] at o1
    obtain ⟨o', ⟨K, kc⟩, rfl, hblk, hkc, hrd, hro, hki⟩ := o1
    have f3 := fz 3
    obtain ⟨op, pol, key, num⟩ := c
    dsimp only [callC] at hblk hkc hrd
    obtain ⟨m, Hm⟩ : ∃ m, Hid (key.length = m) := ⟨_, rfl⟩
    rw [Hm.out] at hkc hblk
    have u0 : w1.cell? ⟨o', 0, none⟩ = some (.int .u8 (op : Int)) := blk_cell hblk 0
    have u1 : w1.cell? ⟨o', 1, none⟩ = some (.int .i64 (pol : Int)) := blk_cell hblk 1
    have u2 : w1.cell? ⟨o', 2, none⟩ = some (.slice K m kc) := blk_cell hblk 2
    have u3 : w1.cell? ⟨o', 3, none⟩ = some (.int .i64 (num : Int)) := blk_cell hblk 3
    obtain ⟨V, hV⟩ : ∃ V, w1.alloc (.cells #[.int .u8 (op : Int), .int .i64 (pol : Int), .slice K m kc, .int .i64 (num : Int)] 63) = V := ⟨_, rfl⟩
    have xV : Ext w1 V := by rw [← hV]; exact (Ext.refl w1).alloc _
    have KV := Lib.hid (show V.heap[w1.heap.size]? = some (.cells #[.int .u8 (op : Int), .int .i64 (pol : Int), .slice K m kc, .int .i64 (num : Int)] 63 (0, 0)) by rw [← hV]; exact blk_new w1 _)
    have hng : ¬ w1.heap.size = gc := by omega
    have hng0 : ¬ w.heap.size = gc := fun e => HL0.out (by rw [e]; exact H.out.bounds.1)
    have e3 := ext_cell xV d3; have h3 := frz_ext2 xV d3 f3
    obtain ⟨kX, gX⟩ := (k1.ext xV).outNone
    clear k1 kp
    go_upto_region 10 with fail
    (try rw [hV])
    clear hV u0 u1 u2 u3 d3 f3
    go_upto_region 11 with fail
    obtain ⟨X, hX⟩ : ∃ X, V.setCell ⟨gc, 3, none⟩ (.pointer none) = X := ⟨_, rfl⟩
    rw [hX] at kX gX
    (try rw [hX])
    have x8 := gX.blk KV.out hng
    have x3 := gX.blk (blk_ext KP1.out xV) hng0
    have a0 : X.cell? ⟨w1.heap.size, 0, none⟩ = some (.int .u8 (op : Int)) := blk_cell x8 0
    have b0 : X.cell? ⟨w.heap.size, 0, none⟩ = some (.int .i64 (e : Int)) := blk_cell x3 0
    have gwX : GB w1 X (· = gc) := GB.back xV gX
    have GO1 := Lib.hid (fun (s2 : CSt) (w2 : World) (hh : ConnGo X base L1 RO1 gc r s2 w2) => ConnGo.back XW.out (conn_go_then K2.out K3.out K4.out (conn_go_then (L1 := L1) (RO1 := RO1) (gwX.more (fun b _ e => by rw [e]; exact K1.out.bounds.1)) (fun b e => .inl e) (fun b e => .inl e) hh)))
    have KX := Lib.hid kX
    have X8 := Lib.hid x8; have X3 := Lib.hid x3
    have HKR := Lib.hid (gX.rd (hrd.ext xV) (fun p hp e => (K1.out.bounds.2.2 _ (hki p hp)).1 (by rw [e]; exact K1.out.bounds.1)))
    have HKI := Lib.hid hki
    clear hX e3 h3 kX gX x8 x3 gwX hrd hki fz hblk hro xV
    by_cases he0 : e = 0
    · subst he0
      by_cases h2 : op = 2
      · subst h2
        have LG := KX.out.ledger
        dsimp only at LG
        rw [wrote_led] at LG
        obtain ⟨TA, tc, tk, c5, f5, hnb, ow, htk, hkr, hkin, hbX, hmem, step⟩ := LG
        obtain ⟨n, Hn⟩ : ∃ n, Hid (s.led.length = n) := ⟨_, rfl⟩
        rw [Hn.out] at c5 hnb ow htk hmem step hled
        have a1 : X.cell? ⟨w1.heap.size, 1, none⟩ = some (.int .i64 (pol : Int)) := blk_cell X8.out 1
        have a2 : X.cell? ⟨w1.heap.size, 2, none⟩ = some (.slice K m kc) := blk_cell X8.out 2
        have b4 : X.cell? ⟨w.heap.size, 4, none⟩ = some (.int .i64 sn) := blk_cell X3.out 4
        have C5 := Lib.hid c5; have OW := Lib.hid ow; have STEP := Lib.hid step; have NB := Lib.hid hnb; have HTK := Lib.hid htk; have HKRD := Lib.hid hkr; have HKIN := Lib.hid hkin
        have nb8 : (Value.slice TA n tc).ownBlock ≠ some w1.heap.size := fun e => Nat.lt_irrefl _ (K1.out.bounds.2.1 _ (hmem _ e)).2
        have nb3 : (Value.slice TA n tc).ownBlock ≠ some w.heap.size := fun e => (K3.out _ (hmem _ e)).elim HL0.out (fun e => by have := blk_lt KP.out; omega)
        clear ow step hnb htk hkr hkin hmem
        go_upto_region 15 with fail
        refine wp_region_k (fun u => u.cell? ⟨gc, 5, none⟩ = some (.slice TA n tc) ∧ u.cell? ⟨w1.heap.size, 1, none⟩ = some (.int .i64 (pol : Int)) ∧ u.cell? ⟨w1.heap.size, 2, none⟩ = some (.slice K m kc) ∧ u.cell? ⟨w.heap.size, 4, none⟩ = some (.int .i64 sn)) [16] (by kernel_rfl) ?_
        have hHeld := And.intro (drew_cell c5) (And.intro (drew_cell a1) (And.intro (drew_cell a2) (drew_cell b4)))
        have XD : Ext X X.drew := (Ext.refl X).drew
        clear a0 b0 a1 a2 b4 c5
        generalize X.drew = U at XD hHeld ⊢
        refine wpAnyK_free (i := 0) (oi := _) (v := ?_) rfl (by kernel_rfl) (by kernel_rfl) (by kernel_rfl) (by kernel_rfl) (fun _ _ _ h => h) (Or.inl ⟨by rfl, ?_⟩) (HeldT.of hHeld) ?_
        rotate_left
        · intro w _; go_simp
          (try with_reducible rfl)
        (try simp only [Act.put])
        refine wpAnyK_free (i := 1) (oi := _) (v := ?_) rfl (by kernel_rfl) (by kernel_rfl) (by kernel_rfl) (by kernel_rfl) (fun _ _ _ h => h) (Or.inl ⟨by rfl, ?_⟩) (HeldT.of hHeld) ?_
        rotate_left
        · intro w _; go_simp
          (try with_reducible rfl)
        (try simp only [Act.put])
        refine wpAnyK_free (i := 2) (oi := _) (v := ?_) rfl (by kernel_rfl) (by kernel_rfl) (by kernel_rfl) (by kernel_rfl) (fun _ _ _ h => h) (Or.inl ⟨by rfl, ?_⟩) (HeldT.of hHeld) ?_
        rotate_left
        · intro w _; go_simp
          (try with_reducible rfl)
        (try simp only [Act.put])
        refine wpAnyK_free (i := 3) (oi := _) (v := ?_) rfl (by kernel_rfl) (by kernel_rfl) (by kernel_rfl) (by kernel_rfl) (fun _ _ _ h => h) (Or.inl ⟨by rfl, ?_⟩) (HeldT.of hHeld) ?_
        rotate_left
        · intro w _; go_simp
          (try with_reducible rfl)
        (try simp only [Act.put])
        refine wpAnyK_free (i := 5) (oi := _) (v := ?_) rfl (by kernel_rfl) (by kernel_rfl) (by kernel_rfl) (by kernel_rfl) (fun _ _ _ h => h) (Or.inl ⟨by rfl, ?_⟩) (HeldT.of hHeld) ?_
        rotate_left
        · intro w _; go_simp
          (try with_reducible rfl)
        (try simp only [Act.put])
        refine wpAnyK_free (i := 7) (oi := _) (v := ?_) rfl (by kernel_rfl) (by kernel_rfl) (by kernel_rfl) (by kernel_rfl) (fun _ _ _ h => h) (Or.inl ⟨by rfl, ?_⟩) (HeldT.of hHeld) ?_
        rotate_left
        · intro w _; go_simp
          (try with_reducible rfl)
        (try simp only [Act.put])
        refine wpAnyK_free (i := 9) (oi := _) (v := ?_) rfl (by kernel_rfl) (by kernel_rfl) (by kernel_rfl) (by kernel_rfl) (fun _ _ _ h => h) (Or.inl ⟨by rfl, ?_⟩) (HeldT.of hHeld) ?_
        rotate_left
        · intro w _; go_simp
          (try with_reducible rfl)
        (try simp only [Act.put])
        refine wpAnyK_take 20 (i := 4) (oi := _) (v := ?_) rfl (by kernel_rfl) (by kernel_rfl) (by kernel_rfl) (by kernel_rfl) (by kernel_rfl) (fun _ _ _ h => h) (Or.inl ⟨by rfl, ?_⟩) (by assumption) ?_
        rotate_left
        · intro w hSw; (try dsimp only at hSw); go_simp
          (try with_reducible rfl)
        (try simp only [Act.put])
        refine wpAnyK_take 20 (i := 6) (oi := _) (v := ?_) rfl (by kernel_rfl) (by kernel_rfl) (by kernel_rfl) (by kernel_rfl) (by kernel_rfl) (fun _ _ _ h => h) (Or.inl ⟨by rfl, ?_⟩) (by assumption) ?_
        rotate_left
        · intro w hSw; (try dsimp only at hSw); go_simp
          (try with_reducible rfl)
        (try simp only [Act.put])
        refine wpAnyK_take 20 (i := 8) (oi := _) (v := ?_) rfl (by kernel_rfl) (by kernel_rfl) (by kernel_rfl) (by kernel_rfl) (by kernel_rfl) (fun _ _ _ h => h) (Or.inl ⟨by rfl, ?_⟩) (by assumption) ?_
        rotate_left
        · intro w hSw; (try dsimp only at hSw); go_simp
          (try with_reducible rfl)
        (try simp only [Act.put])
        refine wpAnyK_take 20 (i := 10) (oi := _) (v := ?_) rfl (by kernel_rfl) (by kernel_rfl) (by kernel_rfl) (by kernel_rfl) (by kernel_rfl) (fun _ _ _ h => h) (Or.inl ⟨by rfl, ?_⟩) (by assumption) ?_
        rotate_left
        · intro w hSw; (try dsimp only at hSw); go_simp
          (try with_reducible rfl)
        (try simp only [Act.put])
        refine wpAnyK_free (i := 11) (oi := _) (v := ?_) rfl (by kernel_rfl) (by kernel_rfl) (by kernel_rfl) (by kernel_rfl) (fun _ _ _ h => h) (Or.inl ⟨by rfl, ?_⟩) (HeldT.of hHeld) ?_
        rotate_left
        · intro w _; go_simp
          (try with_reducible rfl)
        (try simp only [Act.put])
        refine wpAnyK_ready (rs := [12]) (by kernel_rfl) (by simp) (AllReadyK.cons (o := _) rfl (fun K' hK => ?_) AllReadyK.nil)
        have c5 := hHeld.1
        have a1 := hHeld.2.1
        have a2 := hHeld.2.2.1
        have b4 := hHeld.2.2.2
        go_simp
        have yU : Ext U (U.alloc (.cells #[.int .i64 (pol : Int), .slice K m kc, .int .i64 sn] 53)) := (Ext.refl U).alloc _
        have yX := XD.trans yU
        refine hK.out _ _ ⟨ext_cell yU c5, ext_cell yU a1, ext_cell yU a2, ext_cell yU b4⟩ ?_
        clear hK K'
        (try simp only [Act.put])
        have e5 := ext_cell yU c5; have e1 := ext_cell yU a1; have e2 := ext_cell yU a2; have e4 := ext_cell yU b4
        have f5Y := frz_ext2 yX C5.out f5
        have OWY := Lib.hid (own_ext OW.out yX)
        have RDY := Lib.hid (show Rd (U.alloc (.cells #[.int .i64 (pol : Int), .slice K m kc, .int .i64 sn] 53)) (some ⟨U.heap.size, 0, none⟩) [.int .i64 (pol : Int), .slice K m kc, .int .i64 sn] from rd_newk U [.int .i64 (pol : Int), .slice K m kc, .int .i64 sn] _ rfl)
        have hbY := Nat.le_trans hbX yX.size
        refine wpAnyK_ready (rs := [13]) (by kernel_rfl) (by simp) (AllReadyK.cons (o := _) rfl (fun K' hK => ?_) AllReadyK.nil)
        refine step_app_tok (U.alloc (.cells #[.int .i64 (pol : Int), .slice K m kc, .int .i64 sn] 53)) rfl (.tmp 57) (.tmp 65) rfl base (by rfl) OWY.out (by rfl) RDY.out rfl rfl rfl (by omega) hbY ?_
        intro B' cb' w6 o6 g6 b6
        have nb5 := NB.out
        have q5 := g6.cell e5 nb5.symm; have q1 := g6.cell e1 nb8.symm; have q2 := g6.cell e2 nb8.symm; have q4 := g6.cell e4 nb3.symm
        have F5 := frz_grown g6 e5 f5Y nb5
        have O6 := Lib.hid o6; have G6 := Lib.hid g6; have B6 := Lib.hid b6
        clear o6 g6 b6
        refine hK.out _ _ ⟨q5, q1, q2, q4⟩ ?_
        clear hK K'
        (try simp only [Act.put])
        refine wpAnyK_ready (rs := [14]) (by kernel_rfl) (by simp) (AllReadyK.cons (o := _) rfl (fun K' hK => ?_) AllReadyK.nil)
        go_simp
        refine hK.out _ _ ⟨q5, q1, q2, q4⟩ ?_
        clear hK K'
        (try simp only [Act.put])
        refine wpAnyK_ready (rs := [15]) (by kernel_rfl) (by simp) (AllReadyK.cons (o := _) rfl (fun K' hK => ?_) AllReadyK.nil)
        go_simp
        refine hK.out _ _ ⟨q5, q1, q2, q4⟩ ?_
        clear hK K'
        (try simp only [Act.put])
        refine wpAnyK_ready (rs := [16]) (by kernel_rfl) (by simp) (AllReadyK.last (o := _) (by kernel_rfl) rfl (fun K' hK => ?_) AllReadyK.nil)
        go_simp
        refine hK.out _ _ ?_
        clear hK K'
        (try simp only [Act.put])
        refine wpAnyK_done (by kernel_rfl) ?_ _
        go_wp2_with fail
        go_ret
        refine ⟨0, B, HRI.out, rfl, ?_⟩
        rw [if_pos rfl]
        unfold repliedS
        dsimp only
        rw [if_pos (by rfl), if_pos (by rfl)]
        refine GO1.out _ _ ?_
        have o6 := O6.out
        rw [← Hm.out] at o6
        have hlen : tk.length = s.led.length := by rw [HTK.out, Hn.out]
        have := STEP.out B' (n + 1) cb' w6 (s.led ++ [⟨(pol : Int), key, sn⟩]) (tk ++ [(K, kc)]) (by simp [Hn.out]) (by simp [HTK.out, Hn.out]) (by unfold toksV; rw [zipV_snoc tokC hlen (K, kc) ⟨(pol : Int), key, sn⟩]; exact o6) (HKRD.out.snoc hlen (by dsimp only; rw [Hm.out]; exact hkc) HKR.out) (fun k hk => by
          rcases List.mem_append.1 hk with hk | hk
          · exact HKIN.out k hk
          · rw [List.mem_singleton.1 hk]; exact HKI.out) (((GB.refl X _).ext (XD.trans yU)).grown G6.out (fun q e => .inl e)) (fun b e => by
          rcases B6.out with h9 | h9
          · exact .inl (h9 ▸ e)
          · rw [h9] at e
            injection e with e
            exact .inr (by rw [← e]; exact (XD.trans yU).size))
        exact this
      · by_cases h3 : op = 3
        · subst h3
          have LG := KX.out.ledger
          dsimp only at LG
          rw [wrote_led] at LG
          obtain ⟨TA, tc, tk, c5, f5, hnb, ow, htk, hkr, hkin, hbX, hmem, step⟩ := LG
          obtain ⟨n, Hn⟩ : ∃ n, Hid (s.led.length = n) := ⟨_, rfl⟩
          have IX := Lib.hid (cindex_any X TA n tc s.led tk w1.heap.size kc m pol num 3 K key Hn.out (by have := Hn.out; omega) ⟨htk, rd_own3 ow, hkr⟩ HI.out.2.2.2.2 X8.out Hm.out (HI.out.2.2.1 _ HO.out).2.1 HKR.out)
          rw [Hn.out] at c5 hnb ow htk hmem step hled
          have C5 := Lib.hid c5; have OW := Lib.hid ow; have STEP := Lib.hid step; have NB := Lib.hid hnb; have HTK := Lib.hid htk; have HKRD := Lib.hid hkr; have HKIN := Lib.hid hkin
          clear ow step hnb htk hkr hkin hmem h2
          have hlen : Hid (tk.length = s.led.length) := by rw [Hid, HTK.out, Hn.out]
          cases hx : idxT ⟨3, pol, key, num⟩ s.led with
          | none =>
            rw [hx] at IX
            have HX := Lib.hid hx
            clear hx
            unfold idxV at IX
            dsimp only at IX
            go_wp2_with fail
            refine IX.out.mono ?_
            rintro e w5 ⟨rfl, x5⟩
            go_wp2_with fail
            go_ret
            refine ⟨0, B, HRI.out, rfl, ?_⟩
            rw [if_pos rfl]
            unfold repliedS
            dsimp only
            rw [if_pos (by rfl), if_neg (by omega), if_pos (by rfl), HX.out]
            dsimp only
            have := GO1.out _ _ (ConnGo.refl KX.out x5)
            rw [wrote_led] at this
            exact this
          | some i =>
            rw [hx] at IX
            have HX := Lib.hid hx
            have hin : i < n := by rw [← Hn.out]; exact idx_lt hx
            clear hx
            unfold idxV at IX
            dsimp only at IX
            go_wp2_with fail
            refine IX.out.mono ?_
            rintro e w5 ⟨rfl, x5⟩
            have d5 := ext_cell x5 c5
            have g5 := frz_ext2 x5 c5 f5
            have DL := Lib.hid (tk_delete w5 base TA n tc i (toksV tk s.led) toks_one (by omega) hin (own_ext OW.out x5))
            have X5 := Lib.hid x5
            clear x5 c5 f5
            go_wp2_with fail
            refine DL.out.mono ?_
            rintro e w7 ⟨rfl, o7, g7⟩
            have O7 := Lib.hid o7; have G7 := Lib.hid g7
            have q5 := g7.cell d5 NB.out.symm
            have F5 := frz_grown g7 d5 g5 NB.out
            clear o7 g7 d5 g5
            go_wp2_with fail
            go_ret
            refine ⟨0, B, HRI.out, rfl, ?_⟩
            rw [if_pos rfl]
            unfold repliedS
            dsimp only
            rw [if_pos (by rfl), if_neg (by omega), if_pos (by rfl), HX.out]
            dsimp only
            refine GO1.out _ _ ?_
            have hi9 : i < s.led.length := by rw [Hn.out]; exact hin
            have := STEP.out TA (n - 1) tc w7 (s.led.eraseIdx i) (tk.eraseIdx i) (by rw [List.length_eraseIdx_of_lt hi9, Hn.out]) (by rw [List.length_eraseIdx_of_lt hi9, List.length_eraseIdx_of_lt (by rw [hlen.out]; exact hi9), hlen.out]) (by unfold toksV; rw [zipV_erase tokC 3 (fun _ _ => rfl) tk s.led i hlen.out hi9]; exact O7.out) (fun p hp => HKRD.out p (zip_erase_sub tk s.led i hlen.out p hp)) (fun k hk => HKIN.out k (List.mem_of_mem_eraseIdx hk)) (((GB.refl X _).ext X5.out).grown G7.out (fun q e => .inl e)) (fun b e => .inl (by cases TA <;> exact e))
            exact this
        · have n2 : ((op : Int) == 2) = false := by simp; omega
          have n3 : ((op : Int) == 3) = false := by simp; omega
          have N2 := Lib.hid h2; have N3 := Lib.hid h3
          clear h2 h3
          go_wp2_with fail
          go_ret
          refine ⟨0, B, HRI.out, rfl, ?_⟩
          rw [if_pos rfl]
          unfold repliedS
          dsimp only
          rw [if_pos (by rfl), if_neg N2.out, if_neg N3.out]
          exact GO1.out _ _ (ConnGo.refl KX.out (Ext.refl _))
    · have ne : ((e : Int) != 0) = true := by simpa using he0
      have NE := Lib.hid he0
      clear he0
      go_wp2_with fail
      go_ret
      refine ⟨0, B, HRI.out, rfl, ?_⟩
      rw [if_pos rfl]
      unfold repliedS
      rw [if_neg (by have := NE.out; omega)]
      exact GO1.out _ _ (ConnGo.refl KX.out (Ext.refl _))
end
end Go.Proofs.Ythkdjjfnmlemdaa
