/- shard: Is, end, begin; Board's Load, Swap, Look, New; New. -/
import Derived.Test.YtlgggeeflomelaaShA
import Derived.BigRegion
namespace Go.Proofs.Ytlgggeeflomelaa
open Go.RowKit

theorem sis_ok (who : Nat) (w : World) (h : who < 64) : Calls Try.prog 63 #[.int .i64 (who : Int)] w fun e w' => e = .returned (.bool true) ∧ w = w' := by
  have h1 : (0 : Int) ≤ (who : Int) := by omega
  have h2 : (who : Int) < 64 := by omega
  go_enter Try.func63, Try.ntmps63
  go_wp2_with fail
  go_ret
  exact ⟨rfl, rfl⟩
theorem sis_bad (who : Int) (w : World) (h : ¬ (0 ≤ who ∧ who < 64)) : Calls Try.prog 63 #[.int .i64 who] w fun e w' => e = .returned (.bool false) ∧ w = w' := by
  by_cases h0 : 0 ≤ who
  · have h1 : ¬ who < 64 := by omega
    clear h
    go_enter Try.func63, Try.ntmps63
    go_wp2_with fail
    go_ret
    exact ⟨rfl, rfl⟩
  · clear h
    go_enter Try.func63, Try.ntmps63
    go_wp2_with fail
    go_ret
    exact ⟨rfl, rfl⟩
set_option maxRecDepth 100000 in
theorem send_any (e n : Int) (w : World) : Calls Try.prog 93 #[.int .i64 e, .int .i64 n] w (RetE (.tuple #[.nilFunc, .agg #[.bool true, .int .i64 e, .int .i64 n]]) w) := by
  go_enter Try.func93, Try.ntmps93
  go_wp2_with fail
  refine bodyPost_ret (results_tmp_row (p := 5) (u := 4) rfl _ _ w.heap.size _ #[.bool true, .int .i64 e, .int .i64 n] (0, 0) _ rfl (blk_new w _) Try.underlying74 (by rfl) (by kernel_rfl)) rfl ?_
  exact ⟨rfl, (Ext.refl w).alloc _⟩
/-- a function with two new boxes -/
def BegR (gx who op : Nat) (K : Option Addr) (m d : Nat) (val : Int) (w : World) (e : Ending) (w' : World) : Prop :=
  ∃ t0 t1, e = .returned (.func (.func 90) #[] #[.pointer (some ⟨w.heap.size, 0, none⟩), .pointer (some ⟨w.heap.size + 1, 0, none⟩)]) ∧ w'.heap[w.heap.size]? = some (.cells #[.pointer (some ⟨gx, 0, none⟩)] t0 (0, 0)) ∧
    w'.heap[w.heap.size + 1]? = some (.cells #[.int .i64 (who : Int), .int .u8 (op : Int), .slice K m d, .int .i64 val] t1 (0, 0)) ∧ Ext w w'
theorem sbegin_any (gx who op : Nat) (K : Option Addr) (m d : Nat) (val : Int) (w : World) :
    Calls Try.prog 65 #[.pointer (some ⟨gx, 0, none⟩), .agg #[.int .i64 (who : Int), .int .u8 (op : Int), .slice K m d, .int .i64 val]] w (BegR gx who op K m d val w) := by
  have hmf := hmfC
  go_enter Try.func65, Try.ntmps65
  go_wp2_with fail
  go_ret
  exact ⟨_, _, rfl, blk_past (blk_new w _) _, blk_newk _ _ (by simp), ((Ext.refl w).alloc _).alloc _⟩
theorem load0 (w : World) (F : Nat → Prop) (g val who : Nat) (L : List AccE) (h : MachAt w F g [val] 0 L) (hL : L.length ≤ 1000000) (h2 : who < 64) :
    Calls Try.prog 80 #[.pointer (some ⟨g, 0, none⟩), .int .i64 (who : Int), .int .i64 0] w fun e w' => e = .returned (.tuple #[.int .u64 (val : Int), .int .i64 0]) ∧ MachGo w F g [val] 0 (L ++ [⟨who, 1, 0, val, 0, true⟩]) w' :=
  load_ok w F g [val] 0 L who 0 val h hL (by omega) (by omega) rfl
theorem swap0h (w : World) (F : Nat → Prop) (g val new who : Nat) (L : List AccE) (ni : Int) (hni : ni = (new : Int)) (h : MachAt w F g [val] 0 L) (hL : L.length ≤ 1000000) (h2 : who < 64) :
    Calls Try.prog 87 #[.pointer (some ⟨g, 0, none⟩), .int .i64 (who : Int), .int .i64 0, .int .u64 (val : Int), .int .u64 ni] w fun e w' => e = .returned (.tuple #[.bool true, .int .i64 0]) ∧ MachGo w F g [new] 0 (L ++ [⟨who, 2, 0, val, new, true⟩]) w' := by
  subst hni
  exact swap_hit w F g [val] 0 L who 0 val new h hL (by omega) (by omega) rfl
theorem swap0m (w : World) (F : Nat → Prop) (g val old new who : Nat) (L : List AccE) (ni : Int) (hni : ni = (new : Int)) (h : MachAt w F g [val] 0 L) (hL : L.length ≤ 1000000) (h2 : who < 64) (hne : val ≠ old) :
    Calls Try.prog 87 #[.pointer (some ⟨g, 0, none⟩), .int .i64 (who : Int), .int .i64 0, .int .u64 (old : Int), .int .u64 ni] w fun e w' => e = .returned (.tuple #[.bool false, .int .i64 0]) ∧ MachGo w F g [val] 0 (L ++ [⟨who, 2, 0, old, new, false⟩]) w' := by
  subst hni
  exact swap_miss w F g [val] 0 L who 0 val old new h hL (by omega) (by omega) rfl hne
theorem word0 (w : World) (F : Nat → Prop) (g val : Nat) (L : List AccE) (h : MachAt w F g [val] 0 L) :
    Calls Try.prog 54 #[.pointer (some ⟨g, 0, none⟩), .int .i64 0] w fun e w' => e = .returned (.tuple #[.int .u64 (val : Int), .int .i64 0]) ∧ w = w' := word_ok w F g [val] 0 L 0 val h rfl
/-- the board is read -/
def LoadR (w : World) (C F : Nat → Prop) (gx gb : Nat) (L' : List AccE) (s : SSt) (e : Ending) (w' : World) : Prop :=
  ∃ A c ks, e = .returned (.tuple #[.int .u64 (s.ver : Int), .slice A s.lst.length c]) ∧ EntF w C F A s.lst ks ∧ ShGo w C F gx gb L' s w'
set_option maxHeartbeats 1000000 in
theorem bload_any (w : World) (C F : Nat → Prop) (gx gb who : Nat) (L : List AccE) (s : SSt) (h : ShAt w C F gx gb L s) (hL : L.length ≤ 100000) (hw : who < 64) :
    Calls Try.prog 91 #[.pointer (some ⟨gb, 0, none⟩), .int .i64 (who : Int), .int .i64 0] w (LoadR w C F gx gb (L ++ [⟨who, 1, 0, s.ver, 0, true⟩]) s) := by
  obtain ⟨Fm, gm, gh, A, c, ks, hm, -, b0, b1, g0, -, hE, -, -, f3, f4, -, -, -, -, go1, -⟩ := h.mach
  have LD := Lib.hid (load0 w Fm gm s.ver who L hm (by omega) hw)
  have HE := Lib.hid hE; have G1 := Lib.hid go1
  obtain ⟨ver, Hv⟩ : ∃ v, Hid (s.ver = v) := ⟨_, rfl⟩
  rw [Hv.out] at LD
  obtain ⟨ln, Hn⟩ : ∃ v, Hid (s.lst.length = v) := ⟨_, rfl⟩
  rw [Hn.out] at g0
  clear h hm hE go1
  go_enter Try.func91, Try.ntmps91
  go_wp2_with fail
  refine LD.out.mono ?_
  rintro e w1 ⟨rfl, hg⟩
  have HG := Lib.hid hg
  obtain ⟨_, _, g, _⟩ := hg
  have c0 := g.cell b0 f4; have c1 := g.cell b1 f4; have d0 := g.cell g0 f3
  clear b0 b1 g0 g
  go_wp2_with fail
  go_region
  go_wp2_with fail
  go_ret2
  refine ⟨A, c, ks, ret_t2 (by rw [Hv.out]; rfl) (by rw [Hn.out]; rfl), HE.out, ?_⟩
  have := G1.out _ _ (by rw [Hv.out]; exact HG.out)
  rw [← Hv.out] at this
  exact this.ext (Ext.refl w1).drew
set_option maxHeartbeats 1000000 in
theorem blook_any (w : World) (C F : Nat → Prop) (gx gb : Nat) (L : List AccE) (s : SSt) (h : ShAt w C F gx gb L s) :
    Calls Try.prog 68 #[.pointer (some ⟨gb, 0, none⟩), .int .i64 0] w (fun e w' => ∃ A c ks, e = .returned (.tuple #[.int .u64 (s.ver : Int), .slice A s.lst.length c]) ∧ EntF w C F A s.lst ks ∧ Ext w w') := by
  obtain ⟨Fm, gm, gh, A, c, ks, hm, -, b0, b1, g0, -, hE, -, -, f3, f4, -, -, -, -, go1, -⟩ := h.mach
  have LD := Lib.hid (word0 w Fm gm s.ver L hm)
  have HE := Lib.hid hE
  obtain ⟨ver, Hv⟩ : ∃ v, Hid (s.ver = v) := ⟨_, rfl⟩
  rw [Hv.out] at LD
  obtain ⟨ln, Hn⟩ : ∃ v, Hid (s.lst.length = v) := ⟨_, rfl⟩
  rw [Hn.out] at g0
  clear h hm hE go1
  go_enter Try.func68, Try.ntmps68
  go_wp2_with fail
  refine LD.out.mono ?_
  rintro e w1 ⟨rfl, rfl⟩
  go_wp2_with fail
  go_region
  go_wp2_with fail
  go_ret2
  exact ⟨A, c, ks, ret_t2 (by rw [Hv.out]; rfl) (by rw [Hn.out]; rfl), HE.out, (Ext.refl w).drew⟩
set_option maxHeartbeats 1000000 in
theorem bswap_hit (w : World) (C F : Nat → Prop) (gx gb who : Nat) (L : List AccE) (s : SSt) (vn : Int) (hvn : vn = ((s.ver + 1 : Nat) : Int)) (A' : Option Addr) (n' c' : Nat) (l' : List Ent) (ks' : List Kref) (h : ShAt w C F gx gb L s) (hL : L.length ≤ 100000) (hw : who < 64) (he : EntF w C F A' l' ks') (hl : l'.length = n') :
    Calls Try.prog 61 #[.pointer (some ⟨gb, 0, none⟩), .int .i64 (who : Int), .int .i64 0, .int .u64 (s.ver : Int), .int .u64 vn, .slice A' n' c'] w (fun e w' => e = .returned (.bool true) ∧ ShGo w C F gx gb (L ++ [⟨who, 2, 0, s.ver, s.ver + 1, true⟩]) { s with ver := s.ver + 1, lst := l' } w') := by
  obtain ⟨Fm, gm, gh, A, c, ks, hm, -, b0, b1, g0, ⟨t, cs, hh⟩, -, -, -, f3, f4, -, -, -, -, -, go2⟩ := h.mach
  have LD := Lib.hid (swap0h w Fm gm s.ver (s.ver + 1) who L vn hvn hm (by omega) hw)
  have G2 := Lib.hid (fun w1 hg => go2 (L ++ [⟨who, 2, 0, s.ver, s.ver + 1, true⟩]) w1 (s.ver + 1) l' A' c' ks' hg he)
  have Hl := Lib.hid hl
  obtain ⟨ver, hv⟩ : ∃ v, s.ver = v := ⟨_, rfl⟩
  rw [hv] at LD G2 ⊢
  obtain ⟨vv, hvv⟩ : ∃ v, v = ver + 1 := ⟨_, rfl⟩
  rw [← hvv] at LD G2 ⊢
  clear h hm go2 he hl hvn hv hvv
  go_enter Try.func61, Try.ntmps61
  go_wp2_with fail
  refine LD.out.mono ?_
  rintro e w1 ⟨rfl, hg⟩
  have HG := Lib.hid (G2.out w1 hg)
  obtain ⟨_, _, g, _⟩ := hg
  have c0 := g.cell b0 f4; have c1 := g.cell b1 f4; have d0 := g.cell g0 f3; have fz := blk_frozen (g.blk hh f3) 0
  clear b0 b1 g0 g hh
  go_wp2_with fail
  go_ret
  refine ⟨rfl, ?_⟩
  have := HG.out
  rw [Hl.out] at this
  exact this
theorem bswap_miss (w : World) (C F : Nat → Prop) (gx gb who old : Nat) (L : List AccE) (s : SSt) (vn : Int) (hvn : vn = ((old + 1 : Nat) : Int)) (A' : Option Addr) (n' c' : Nat) (h : ShAt w C F gx gb L s) (hL : L.length ≤ 100000) (hw : who < 64) (hne : s.ver ≠ old) :
    Calls Try.prog 61 #[.pointer (some ⟨gb, 0, none⟩), .int .i64 (who : Int), .int .i64 0, .int .u64 (old : Int), .int .u64 vn, .slice A' n' c'] w (fun e w' => e = .returned (.bool false) ∧ ShGo w C F gx gb (L ++ [⟨who, 2, 0, old, old + 1, false⟩]) s w') := by
  obtain ⟨Fm, gm, gh, A, c, ks, hm, -, b0, b1, g0, ⟨t, cs, hh⟩, -, -, -, f3, f4, -, -, -, -, go1, -⟩ := h.mach
  have LD := Lib.hid (swap0m w Fm gm s.ver old (old + 1) who L vn hvn hm (by omega) hw hne)
  have G1 := Lib.hid (fun w1 hg => go1 (L ++ [⟨who, 2, 0, old, old + 1, false⟩]) w1 hg)
  obtain ⟨vv, hvv⟩ : ∃ v, v = old + 1 := ⟨_, rfl⟩
  rw [← hvv] at LD G1 ⊢
  clear h hm go1 hvn hvv hne
  go_enter Try.func61, Try.ntmps61
  go_wp2_with fail
  refine LD.out.mono ?_
  rintro e w1 ⟨rfl, hg⟩
  have HG := Lib.hid (G1.out w1 hg)
  clear hg
  go_wp2_with fail
  go_ret
  exact ⟨rfl, HG.out⟩
end Go.Proofs.Ytlgggeeflomelaa
