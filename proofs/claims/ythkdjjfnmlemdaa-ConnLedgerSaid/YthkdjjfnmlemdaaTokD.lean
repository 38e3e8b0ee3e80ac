/- token.Decode. -/
import Derived.Test.YthkdjjfnmlemdaaTokR
import Derived.Test.YthkdjjfnmlemdaaBlk
namespace Go.Proofs.Ythkdjjfnmlemdaa
open Go.RowKit

abbrev tokZ : Value := tokV 0 none 0 0 0

/-- the return of Decode and of DocDecode: a token's cell and a number -/
theorem ret_tok {fn : Func} (h : fn.results = #[.cell 2 53, .tmp 3]) {tmps : Array Value} {w : World} {g : Nat} {a b c : Value} {t : TypeId} {fr : Nat × Nat} (hp : tmps.getD 2 undef = .pointer (some ⟨g, 0, none⟩)) (hg : w.heap[g]? = some (.cells #[a, b, c] t fr)) :
    (results fn tmps).run Try.prog w = .ok (.tuple #[.agg #[a, b, c], tmps.getD 3 undef]) w :=
  results_row_tmp h tmps w g t #[a, b, c] fr _ hp hg Try.underlying53 (by rfl) (by kernel_rfl)

theorem decode_long (w : World) (A : Option Addr) (n c : Nat) (hn : 4096 < n) :
    Calls Try.prog 32 #[.slice A n c] w (RetE (.tuple #[tokZ, .int .i64 2]) w) := by
  go_enter Try.func32, Try.ntmps32
  go_wp2_with fail
  refine bodyPost_ret (ret_tok rfl rfl (heap_alloc_new w _)) rfl ?_
  exact ⟨rfl, (Ext.refl w).alloc _⟩
theorem refDecode_long (w : World) (A : Option Addr) (n c : Nat) (hn : 4096 < n) :
    Calls Try.prog 34 #[.slice A n c] w (RetE (.tuple #[tokZ, .int .i64 2]) w) := by
  go_enter Try.func34, Try.ntmps34
  go_wp2_with fail
  refine bodyPost_ret (ret_tok rfl rfl (heap_alloc_new w _)) rfl ?_
  exact ⟨rfl, (Ext.refl w).alloc _⟩

/-- what Decode and DocDecode leave of a right token's bytes -/
def RetTok (p : Nat) (xs : List Nat) (s : Nat) (w : World) (e : Ending) (w' : World) : Prop :=
  ∃ A c, e = .returned (.tuple #[tokV (p : Int) A xs.length c (s : Int), .int .i64 0]) ∧ w'.ownsRow w.heap.size 5 1 (.slice A xs.length c) xs.length (vals .u8 xs) ∧ Ext w w'

theorem tok_num (p : Nat) (xs : List Nat) (s : Nat) : (((tokB p xs s).drop (xs.length + 4)).take 8) = wordB s 8 := by
  have e : tokB p xs s = ([83, 71, p, xs.length] ++ xs) ++ (wordB s 8 ++ wordB (sumT (bodyT p xs s)) 4) := by simp [tokB, bodyT]
  rw [e, List.drop_append_of_le_length (by simp), List.drop_of_length_le (by simp), List.nil_append, List.take_append_of_le_length (by rw [wordB_len]; omega), List.take_of_length_le (by rw [wordB_len]; omega)]
theorem tok_sum (p : Nat) (xs : List Nat) (s : Nat) : (tokB p xs s).drop (xs.length + 12) = wordB (sumT (bodyT p xs s)) 4 := by
  rw [tokB, List.drop_append_of_le_length (by rw [bodyT_len]; omega), List.drop_of_length_le (by rw [bodyT_len]; omega), List.nil_append]
theorem tok_body (p : Nat) (xs : List Nat) (s : Nat) : (tokB p xs s).take (xs.length + 12) = bodyT p xs s := by
  rw [tokB, List.take_append_of_le_length (by rw [bodyT_len]; omega), List.take_of_length_le (by rw [bodyT_len]; omega)]
theorem tok_key (p : Nat) (xs : List Nat) (s : Nat) : (((tokB p xs s).drop 4).take xs.length) = xs := by
  have e : tokB p xs s = [83, 71, p, xs.length] ++ (xs ++ (wordB s 8 ++ wordB (sumT (bodyT p xs s)) 4)) := by simp [tokB, bodyT]
  rw [e, List.drop_append_of_le_length (by simp), List.drop_of_length_le (by simp), List.nil_append, List.take_append_of_le_length (by omega), List.take_of_length_le (by omega)]

theorem slice_mid {P : Program} {t e : TypeId} (ht : P.underlying t = some (.slice e)) (hz : ∀ u : World, (sizeOf e).run P u = .ok 1 u) {b off n c m d : Nat} (k h : Nat) {ki hi : Int} (hki : ki = (k : Int)) (hhi : hi = (h : Int)) (hhn : h ≤ n) (hnc : n ≤ c) (h2 : ¬ c = k) (hm : h = m + k) (hd : c = d + k) (u : World) :
    (Instr.slice t (.slice (some ⟨b, off, none⟩) n c) (some (.int .i64 ki)) (some (.int .i64 hi)) none).run P u = .ok (.slice (some ⟨b, off + k, none⟩) m d) u := by
  subst hki hhi
  have he : P.elem t = e := by simp [Program.elem, ht]
  rw [run_slice_lh (P := P) u t _ n c (by rw [he]; exact ht) .i64 .i64 (k : Int) (h : Int) (by omega) (by omega) (by omega), he, hz]
  simp only [Result.andThen, sliced, Int.toNat_natCast, if_neg h2, Option.map_some, Addr.add_lit, Nat.mul_one]
  congr 2 <;> omega
theorem rd_off {w : World} {b off : Nat} {vs : List Value} (h : Rd w (some ⟨b, off, none⟩) vs) (j : Nat) : Rd w (some ⟨b, off + j, none⟩) (vs.drop j) := by
  intro hne
  obtain ⟨b', off', hA, hc⟩ := h (by rintro rfl; simp at hne)
  injection hA with hA; injection hA with e1 e2 _; subst e1 e2
  exact ⟨b, off + j, rfl, fun i u hu => by rw [Nat.add_assoc]; exact hc (j + i) u (by rw [← hu, List.getElem?_drop])⟩
theorem rd_cut {w : World} {b off : Nat} {ys zs : List Nat} (h : Rd w (some ⟨b, off, none⟩) (vals .u8 ys)) (j m : Nat) (e : (ys.drop j).take m = zs) : Rd w (some ⟨b, off + j, none⟩) (vals .u8 zs) := by
  have h1 := rd_off h j
  rw [← vals_drop] at h1
  rw [← e]
  exact rd_take (ys := (ys.drop j).drop m) (by rw [List.take_append_drop]; exact h1)

theorem row3h {w : World} {g : Nat} {x y z : Value} {t : TypeId} (h : Hid (w.heap[g]? = some (.cells #[x, y, z] t (0, 0)))) (a b c : Value) : (((w.setCell ⟨g, 0, none⟩ a).setCell ⟨g, 1, none⟩ b).setCell ⟨g, 2, none⟩ c).heap[g]? = some (.cells #[a, b, c] t (0, 0)) := row3 h.out a b c
theorem dec_done {w w2 w6 : World} {p k s c6 : Nat} {xs : List Nat} {A6 : Option Addr} {a b c : Value} (hk : xs.length = k) (ho : w6.ownsRow w2.heap.size 5 1 (.slice A6 (0 + k) c6) (0 + k) (vals .u8 ([] ++ xs))) (hs : w.heap.size < w2.heap.size) (hx : Ext w w2) (hx6 : Ext w2 w6) :
    RetTok p xs s w (.returned (.tuple #[tokV (p : Int) A6 k c6 (s : Int), .int .i64 0])) (((w6.setCell ⟨w.heap.size, 0, none⟩ a).setCell ⟨w.heap.size, 1, none⟩ b).setCell ⟨w.heap.size, 2, none⟩ c) := by
  subst hk
  rw [Nat.zero_add, List.nil_append] at ho
  have hg := grown_setCell (grown_setCell (grown_set w6 w.heap.size 0 a) 1 b) 2 c
  refine ⟨A6, c6, rfl, own_base (ho.kept hg ?_) (Nat.le_of_lt hs), ?_⟩
  · cases hA : (Value.slice A6 xs.length c6).ownBlock with
    | none => exact .inl rfl
    | some q => right; intro e; injection e with e; have := own_ge ho q hA; omega
  · exact (hx.trans hx6).grown hg (fun k hk => by injection hk with hk; omega)

set_option maxHeartbeats 2000000 in
theorem decode_ok (w : World) (p s k : Nat) (A : Option Addr) (n c : Nat) (xs : List Nat) (hk : xs.length = k) (hn : n = k + 16) (hb : ∀ x ∈ xs, x < 256) (hr : Rd w A (vals .u8 (tokB p xs s))) (hnc : n ≤ c) (h1 : 1 ≤ s) (h2 : s ≤ 4611686018427387903) (h4 : p < 32) (hk' : k ≤ 255) :
    Calls Try.prog 32 #[.slice A n c] w (RetTok p xs s w) := by
  obtain ⟨b, off, hA, hc⟩ := hr (by simp [vals, tokB, bodyT])
  subst hA
  have c0 : w.cell? ⟨b, off, none⟩ = some (.int .u8 83) := hc 0 _ rfl
  have c1 : w.cell? ⟨b, off + 1, none⟩ = some (.int .u8 71) := hc 1 _ rfl
  have c2 : w.cell? ⟨b, off + 2, none⟩ = some (.int .u8 (p : Int)) := hc 2 _ rfl
  have c3 : w.cell? ⟨b, off + 3, none⟩ = some (.int .u8 (k : Int)) := by rw [← hk]; exact hc 3 _ rfl
  have Hr := Lib.hid hr; have Hk := Lib.hid hk; have Hb := Lib.hid hb
  clear hc hr hk hb
  have d0 := cell_past c0; have d1 := cell_past c1; have d2 := cell_past c2; have d3 := cell_past c3
  have hne : ((n : Int) != 4 + (k : Int) + 12) = false := by simp; omega
  have n1 : k + 16 ≤ n := by omega
  have n2 : n ≤ k + 16 := by omega
  have n3 : ¬ c = 4 + k := by omega
  have n4 : ¬ c = 4 + k + 8 := by omega
  have r1 := rd_cut (zs := wordB s 8) Hr.out (4 + k) 8 (by have := tok_num p xs s; rw [Hk.out, Nat.add_comm] at this; exact this)
  have r2 := rd_cut (zs := wordB (sumT (bodyT p xs s)) 4) Hr.out (4 + k + 8) 4 (by
    have := tok_sum p xs s
    rw [Hk.out, show k + 12 = 4 + k + 8 by omega] at this
    rw [this, List.take_of_length_le (by rw [wordB_len]; omega)])
  have r3 : Rd w (some ⟨b, off, none⟩) (vals .u8 (bodyT p xs s)) := rd_cut Hr.out 0 (k + 12) (by rw [List.drop_zero, ← Hk.out]; exact tok_body p xs s)
  have r4 := rd_cut (zs := xs) Hr.out 4 k (by have := tok_key p xs s; rw [Hk.out] at this; exact this)
  have R1 := Lib.hid r1; have R2 := Lib.hid r2; have R3 := Lib.hid r3; have R4 := Lib.hid r4
  clear r1 r2 r3 r4 hn
  go_enter Try.func32, Try.ntmps32
  go_wp2_with fail
  have hnum8 : numB (wordB s 8) = s := by
    rw [numB_wordB]
    exact Nat.mod_eq_of_lt (Nat.lt_of_le_of_lt h2 (by decide))
  refine (tokNumber_any _ _ 8 _ (wordB s 8) (wordB_len s 8) (by omega) (wordB_lt s 8) (R1.out.alloc _)).mono ?_
  rintro e w1 ⟨rfl, hw1⟩
  rw [hnum8]
  obtain ⟨U, hU⟩ : ∃ U, upd 14695981039346656037 (bodyT p xs s) = U := ⟨_, rfl⟩
  have hUlt : U < 18446744073709551616 := by rw [← hU]; exact upd_lt _ _ (by omega)
  have hs4 : sumT (bodyT p xs s) = U % 4294967296 := by rw [sumT, hU]
  have hnum4 : numB (wordB (sumT (bodyT p xs s)) 4) = U % 4294967296 := by
    rw [numB_wordB, hs4]
    exact Nat.mod_mod _ _
  have hbl : (bodyT p xs s).length = 4 + k + 8 := by rw [bodyT_len, Hk.out]; omega
  have hbb : ∀ x ∈ bodyT p xs s, x < 256 := fun x hx => by
    simp only [bodyT, List.mem_cons, List.mem_append] at hx
    rcases hx with rfl | rfl | rfl | rfl | hx | hx
    · omega
    · omega
    · omega
    · have := Hk.out; omega
    · exact Hb.out x hx
    · exact wordB_lt _ _ x hx
  have C2 := Lib.hid (fun q => tokNumber_any (w1.drewN q) (some ⟨b, off + (4 + k + 8), none⟩) (n - (4 + k + 8)) (c - (4 + k + 8)) (wordB (sumT (bodyT p xs s)) 4) (by rw [wordB_len]; omega) (by omega) (wordB_lt _ 4) (by rw [← hw1]; exact (R2.out.alloc _).drewN q))
  have C3 := Lib.hid (fun q => sum_any (some ⟨b, off, none⟩) (4 + k + 8) c (bodyT p xs s) (w1.drewN q) hbl hbb (by omega) (by rw [← hw1]; exact (R3.out.alloc _).drewN q))
  rw [hnum4] at C2
  rw [hU] at C3
  have hand := and_sum U hUlt
  have k0 : w1.heap[w.heap.size]? = some (.cells #[.int .i64 0, .slice none 0 0, .int .i64 0] 53 (0, 0)) := by rw [← hw1]; exact heap_alloc_new w _
  have k2 : w1.cell? ⟨b, off + 2, none⟩ = some (.int .u8 (p : Int)) := by rw [← hw1]; exact d2 _
  have hx1 : Ext w w1 := by rw [← hw1]; exact (Ext.refl w).alloc _
  have R4' := Lib.hid (R4.out.ext hx1)
  clear hw1 hU hs4 hnum4 hbl hbb hnum8 c0 c1 c2 c3 d0 d1 d2 d3 R1 R2 R3
  have q1 : decide ((s : Int) < 1) = false := by simp; omega
  have q2 : decide (4611686018427387903 < (s : Int)) = false := by simp; omega
  go_upto_region 7 with fail
  go_quiet ((first
    | (go_at_call 69; exact quiet_eq (C2.out _))
    | (go_at_call 69; exact quiet_add_eq (C2.out _))
    | (go_at_call 67; exact quiet_eq (C3.out _))
    | (go_at_call 67; exact quiet_add_eq (C3.out _))))
  clear hand C2 C3 q1 q2 hUlt
  go_upto_region 9 with fail
  obtain ⟨w2, hw2⟩ : ∃ w2, w1.drewN nq = w2 := ⟨_, rfl⟩
  have k0' : w2.heap[w.heap.size]? = some (.cells #[.int .i64 0, .slice none 0 0, .int .i64 0] 53 (0, 0)) := by rw [← hw2]; exact k0
  have k2' : w2.cell? ⟨b, off + 2, none⟩ = some (.int .u8 (p : Int)) := by rw [← hw2]; exact k2
  have hx2 : Ext w w2 := by rw [← hw2]; exact hx1.drewN nq
  have hs2 : w.heap.size < w2.heap.size := by rw [← hw2]; exact blk_lt k0
  have R5 := Lib.hid (R4.out.ext hx2)
  rw [hw2]
  clear hw2 k0 k2 hx1 R4'
  have w1s : IntKind.i64.wrap (s : Int) = (s : Int) := by rw [IntKind.wrap_i64]; omega
  have w1p : IntKind.i64.wrap (p : Int) = (p : Int) := by rw [IntKind.wrap_i64]; omega
  have hsl : ∀ u : World, (Instr.slice 28 (.slice (some ⟨b, off, none⟩) n c) (some (.int .i64 4)) (some (.int .i64 (4 + (k : Int)))) none).run Try.prog u = .ok (.slice (some ⟨b, off + 4, none⟩) k (c - 4)) u := fun u => slice_mid Try.underlying28 size_u8 4 (4 + k) rfl (by omega) (by omega) hnc (by omega) (by omega) (by omega) u
  go_region_law ((refine step_app_u8 w2.drew rfl (.const (.slice none 0 0)) (.tmp 81) rfl w2.heap.size (B := none) (n := 0) (cb := 0) (xs := []) (by simp [Act.eval]) (World.ownsRow_nil _ _ _ _) (A := some ⟨b, off + 4, none⟩) (m := k) (c := c - 4) (news := xs) (by simp [Act.eval, Act.put]) Hk.out (show Rd w2.drew _ _ from R5.out) (by omega) (by simp) ?_; intro A6 c6 w6 hown6 hgrow6 _; have hx6 : Ext w2 w6 := ((Ext.refl w2).drew).grown hgrow6 (by simp [Value.ownBlock]); have k6 : w6.cell? ⟨b, off + 2, none⟩ = some (.int .u8 (p : Int)) := (hx6.cell (p := ⟨b, off + 2, none⟩) (World.block_lt_of_cell? w2 _ k2')).trans k2'; have k60 := Lib.hid (blk_ext k0' hx6); have g0 := blk_cell k60.out 0; have g1 := blk_cell k60.out 1; have g2 := blk_cell k60.out 2; have f0 := blk_frozen k60.out 0; have f1 := blk_frozen k60.out 1; have f2 := blk_frozen k60.out 2))
  all_goals
    go_wp2_with fail
    refine bodyPost_ret (ret_tok rfl rfl (row3h (by assumption) _ _ _)) rfl ?_
    exact dec_done Hk.out (by assumption) hs2 hx2 (by assumption)
end Go.Proofs.Ythkdjjfnmlemdaa
