/- shard: Start, where it starts. -/
import Derived.Test.YtlgggeeflomelaaShH
namespace Go.Proofs.Ytlgggeeflomelaa
open Go.RowKit

/-- a pending call is begun -/
theorem start_fin {w w2 w3 : World} {C F : Nat → Prop} {gx gb who op m c2 : Nat} {L : List AccE} {s : SSt} {A2 : Option Addr} {key : List Nat} {val : Int} {ta tb : TypeId} (h : ShAt w C F gx gb L s) (hw : who < 64) (ho : w2.ownsRow w.heap.size 5 1 (.slice A2 m c2) m (vals .u8 key)) (hkl : key.length = m) (x2 : Ext w w2)
    (ka : w3.heap[w2.heap.size]? = some (.cells #[.pointer (some ⟨gx, 0, none⟩)] ta (0, 0))) (kb : w3.heap[w2.heap.size + 1]? = some (.cells #[.int .i64 (who : Int), .int .u8 (op : Int), .slice A2 m c2, .int .i64 val] tb (0, 0))) (x3 : Ext w2 w3) :
    ShGo w C F gx gb L (s.put who (.begun op key val)) (w3.setCell ⟨gx, 1 + who, none⟩ (.func (.func 90) #[] #[.pointer (some ⟨w2.heap.size, 0, none⟩), .pointer (some ⟨w2.heap.size + 1, 0, none⟩)])) := by
  have x := x2.trans x3
  have hlt := h.lt
  have hz2 := x2.size
  have hz3 := x3.size
  have hC : ∀ q, w.heap.size ≤ q → ¬ C q := fun q hq e => by have := hlt _ (h.sub _ e); omega
  have h3 : ShAt w3 C (fun i => F i ∨ (w.heap.size ≤ i ∧ i < w3.heap.size)) gx gb L s := (h.ext x).more (fun i hi => .inl hi) (fun i hi => hi.elim (fun h => Nat.lt_of_lt_of_le (hlt i h) x.size) (·.2))
  obtain ⟨f, -, -, -, -, hput⟩ := h3.pend hw
  have hla := blk_lt ka
  have hlb := blk_lt kb
  have hp : PendS w3 C (fun i => F i ∨ (w.heap.size ≤ i ∧ i < w3.heap.size)) gx who (.func (.func 90) #[] #[.pointer (some ⟨w2.heap.size, 0, none⟩), .pointer (some ⟨w2.heap.size + 1, 0, none⟩)]) (.begun op key val) := by
    subst hkl
    refine ⟨_, _, rfl, ⟨w2.heap.size, ta, rfl, ka, hC _ hz2, .inr ⟨hz2, hla⟩⟩, ⟨w2.heap.size + 1, tb, A2, c2, rfl, kb, hC _ (by omega), .inr ⟨by omega, hlb⟩, own_cap ho, (Rd.of_own ho).ext x3, fun a ha => ?_⟩⟩
    subst ha
    have h9 : w.heap.size ≤ a.block ∧ a.block < w2.heap.size := by
      rcases ho.2 with ⟨h1, _⟩ | ⟨g, cap, cur, h1, hb, hg, _⟩
      · injection h1 with h1; cases h1
      · injection h1 with h1 _ _
        injection h1 with h1
        subst h1
        exact ⟨hb, blk_lt hg⟩
    exact ⟨hC _ h9.1, .inr ⟨h9.1, by omega⟩⟩
  obtain ⟨C', F', q1, q2, q3, q4, q5⟩ := hput _ _ hp
  refine ⟨C', F', q1, GB.back x q2, fun i hi => (q3 i hi).imp id (Nat.le_trans x.size), fun i hi => q4 i (.inl hi), fun i hi => ?_⟩
  rcases q5 i hi with (h | h) | h
  · exact .inl h
  · exact .inr h.1
  · exact .inr (Nat.le_trans x.size h)
set_option maxHeartbeats 2000000 in
set_option maxRecDepth 100000 in
theorem sstart_op1 (w : World) (C F : Nat → Prop) (gx gb : Nat) (L : List AccE) (s : SSt) (K : Option Addr) (who m d : Nat) (val : Int) (key : List Nat) (h : ShAt w C F gx gb L s) (hb : s.call who = .idle) (hw : who < 64) (hm : m ≤ 256) (hkl : key.length = m) (hr : Rd w K (vals .u8 key)) :
    Calls Try.prog 36 #[.pointer (some ⟨gx, 0, none⟩), .int .i64 (who : Int), .int .u8 1, .slice K m d, .int .i64 val] w fun e w' => e = .returned (.int .i64 0) ∧ ShGo w C F gx gb L (s.put who (.begun 1 key val)) w' := by
  obtain ⟨f, xf, zf, -, pv, -⟩ := h.pend hw
  obtain rfl : f = .nilFunc := pendS_idle pv hb
  have hq0 : ∀ (u : World), (binOp .neq 143 .nilFunc .nilFunc).run Try.prog u = .ok (.bool false) u := fun _ => rfl
  have IS := Lib.hid (sis_ok who w hw)
  have hm' : ¬ (256 : Int) < (m : Int) := by omega
  have hwi : (who : Int) < 64 := by omega
  have CL := Lib.hid (fun (u : World) (x : Ext w u) => bclone_any K m d key u hkl (by omega) (hr.ext x))
  have Hkl := Lib.hid hkl
  have H := Lib.hid h
  clear pv h hb hkl hr
  go_enter Try.func36, Try.ntmps36
  go_wp2_with fail
  refine IS.out.mono ?_
  rintro e w1 ⟨rfl, rfl⟩
  go_upto_region 9 with fail
  go_region_held3 (fun _ => True) (trivial) (first
      | (go_at_call 66; (with_reducible refine (CL.out _ (by first | exact Ext.refl w | exact (Ext.refl w).drew)).mono ?_); rintro e w2 ⟨A2, c2, rfl, ho2, x2⟩; rw [Hkl.out] at ho2 ⊢; have HO2 := Lib.hid ho2; have X2 := Lib.hid x2; have xf2 := ext_cell x2 xf; have zf2 := frz_ext x2 xf zf; clear ho2 x2)
      | (go_at_call 65; refine (sbegin_any gx who 1 A2 m c2 val w2).mono ?_; rintro e w3 ⟨ta, tb, rfl, ka, kb, x3⟩; have KA := Lib.hid ka; have KB := Lib.hid kb; have X3 := Lib.hid x3; have xf3 := ext_cell x3 xf2; have zf3 := frz_ext x3 xf2 zf2; clear ka kb x3))
  all_goals
    go_wp2_with fail
    go_ret
    exact ⟨rfl, start_fin (op := 1) H.out hw HO2.out Hkl.out ((Ext.refl w).drew.trans X2.out) KA.out KB.out X3.out⟩
set_option maxHeartbeats 2000000 in
set_option maxRecDepth 100000 in
theorem sstart_op2 (w : World) (C F : Nat → Prop) (gx gb : Nat) (L : List AccE) (s : SSt) (K : Option Addr) (who m d : Nat) (val : Int) (key : List Nat) (h : ShAt w C F gx gb L s) (hb : s.call who = .idle) (hw : who < 64) (hv : 0 ≤ val ∧ val ≤ 4611686018427387903) (hm : m ≤ 256) (hkl : key.length = m) (hr : Rd w K (vals .u8 key)) :
    Calls Try.prog 36 #[.pointer (some ⟨gx, 0, none⟩), .int .i64 (who : Int), .int .u8 2, .slice K m d, .int .i64 val] w fun e w' => e = .returned (.int .i64 0) ∧ ShGo w C F gx gb L (s.put who (.begun 2 key val)) w' := by
  obtain ⟨f, xf, zf, -, pv, -⟩ := h.pend hw
  obtain rfl : f = .nilFunc := pendS_idle pv hb
  have hq0 : ∀ (u : World), (binOp .neq 143 .nilFunc .nilFunc).run Try.prog u = .ok (.bool false) u := fun _ => rfl
  have IS := Lib.hid (sis_ok who w hw)
  have hm' : ¬ (256 : Int) < (m : Int) := by omega
  have hwi : (who : Int) < 64 := by omega
  have CL := Lib.hid (fun (u : World) (x : Ext w u) => bclone_any K m d key u hkl (by omega) (hr.ext x))
  have Hkl := Lib.hid hkl
  have H := Lib.hid h
  have FM := Lib.hid (tform_ok val w hv.1 hv.2)
  clear hv
  clear pv h hb hkl hr
  go_enter Try.func36, Try.ntmps36
  go_wp2_with fail
  refine IS.out.mono ?_
  rintro e w1 ⟨rfl, rfl⟩
  go_wp2_with fail
  refine FM.out.mono ?_
  rintro e w1 ⟨rfl, rfl⟩
  go_upto_region 9 with fail
  go_region_held3 (fun _ => True) (trivial) (first
      | (go_at_call 66; (with_reducible refine (CL.out _ (by first | exact Ext.refl w | exact (Ext.refl w).drew)).mono ?_); rintro e w2 ⟨A2, c2, rfl, ho2, x2⟩; rw [Hkl.out] at ho2 ⊢; have HO2 := Lib.hid ho2; have X2 := Lib.hid x2; have xf2 := ext_cell x2 xf; have zf2 := frz_ext x2 xf zf; clear ho2 x2)
      | (go_at_call 65; refine (sbegin_any gx who 2 A2 m c2 val w2).mono ?_; rintro e w3 ⟨ta, tb, rfl, ka, kb, x3⟩; have KA := Lib.hid ka; have KB := Lib.hid kb; have X3 := Lib.hid x3; have xf3 := ext_cell x3 xf2; have zf3 := frz_ext x3 xf2 zf2; clear ka kb x3))
  all_goals
    go_wp2_with fail
    go_ret
    exact ⟨rfl, start_fin (op := 2) H.out hw HO2.out Hkl.out ((Ext.refl w).drew.trans X2.out) KA.out KB.out X3.out⟩
set_option maxHeartbeats 2000000 in
set_option maxRecDepth 100000 in
theorem sstart_op3 (w : World) (C F : Nat → Prop) (gx gb : Nat) (L : List AccE) (s : SSt) (K : Option Addr) (who m d : Nat) (val : Int) (key : List Nat) (h : ShAt w C F gx gb L s) (hb : s.call who = .idle) (hw : who < 64) (hv : 0 ≤ val ∧ val ≤ 4611686018427387903) (hm : m ≤ 256) (hkl : key.length = m) (hr : Rd w K (vals .u8 key)) :
    Calls Try.prog 36 #[.pointer (some ⟨gx, 0, none⟩), .int .i64 (who : Int), .int .u8 3, .slice K m d, .int .i64 val] w fun e w' => e = .returned (.int .i64 0) ∧ ShGo w C F gx gb L (s.put who (.begun 3 key val)) w' := by
  obtain ⟨f, xf, zf, -, pv, -⟩ := h.pend hw
  obtain rfl : f = .nilFunc := pendS_idle pv hb
  have hq0 : ∀ (u : World), (binOp .neq 143 .nilFunc .nilFunc).run Try.prog u = .ok (.bool false) u := fun _ => rfl
  have IS := Lib.hid (sis_ok who w hw)
  have hm' : ¬ (256 : Int) < (m : Int) := by omega
  have hwi : (who : Int) < 64 := by omega
  have CL := Lib.hid (fun (u : World) (x : Ext w u) => bclone_any K m d key u hkl (by omega) (hr.ext x))
  have Hkl := Lib.hid hkl
  have H := Lib.hid h
  have FM := Lib.hid (tform_ok val w hv.1 hv.2)
  clear hv
  clear pv h hb hkl hr
  go_enter Try.func36, Try.ntmps36
  go_wp2_with fail
  refine IS.out.mono ?_
  rintro e w1 ⟨rfl, rfl⟩
  go_wp2_with fail
  refine FM.out.mono ?_
  rintro e w1 ⟨rfl, rfl⟩
  go_upto_region 9 with fail
  go_region_held3 (fun _ => True) (trivial) (first
      | (go_at_call 66; (with_reducible refine (CL.out _ (by first | exact Ext.refl w | exact (Ext.refl w).drew)).mono ?_); rintro e w2 ⟨A2, c2, rfl, ho2, x2⟩; rw [Hkl.out] at ho2 ⊢; have HO2 := Lib.hid ho2; have X2 := Lib.hid x2; have xf2 := ext_cell x2 xf; have zf2 := frz_ext x2 xf zf; clear ho2 x2)
      | (go_at_call 65; refine (sbegin_any gx who 3 A2 m c2 val w2).mono ?_; rintro e w3 ⟨ta, tb, rfl, ka, kb, x3⟩; have KA := Lib.hid ka; have KB := Lib.hid kb; have X3 := Lib.hid x3; have xf3 := ext_cell x3 xf2; have zf3 := frz_ext x3 xf2 zf2; clear ka kb x3))
  all_goals
    go_wp2_with fail
    go_ret
    exact ⟨rfl, start_fin (op := 3) H.out hw HO2.out Hkl.out ((Ext.refl w).drew.trans X2.out) KA.out KB.out X3.out⟩
set_option maxHeartbeats 2000000 in
set_option maxRecDepth 100000 in
theorem sstart_op4 (w : World) (C F : Nat → Prop) (gx gb : Nat) (L : List AccE) (s : SSt) (K : Option Addr) (who m d : Nat) (val : Int) (key : List Nat) (h : ShAt w C F gx gb L s) (hb : s.call who = .idle) (hw : who < 64) (hm : m ≤ 256) (hkl : key.length = m) (hr : Rd w K (vals .u8 key)) :
    Calls Try.prog 36 #[.pointer (some ⟨gx, 0, none⟩), .int .i64 (who : Int), .int .u8 4, .slice K m d, .int .i64 val] w fun e w' => e = .returned (.int .i64 0) ∧ ShGo w C F gx gb L (s.put who (.begun 4 key val)) w' := by
  obtain ⟨f, xf, zf, -, pv, -⟩ := h.pend hw
  obtain rfl : f = .nilFunc := pendS_idle pv hb
  have hq0 : ∀ (u : World), (binOp .neq 143 .nilFunc .nilFunc).run Try.prog u = .ok (.bool false) u := fun _ => rfl
  have IS := Lib.hid (sis_ok who w hw)
  have hm' : ¬ (256 : Int) < (m : Int) := by omega
  have hwi : (who : Int) < 64 := by omega
  have CL := Lib.hid (fun (u : World) (x : Ext w u) => bclone_any K m d key u hkl (by omega) (hr.ext x))
  have Hkl := Lib.hid hkl
  have H := Lib.hid h
  clear pv h hb hkl hr
  go_enter Try.func36, Try.ntmps36
  go_wp2_with fail
  refine IS.out.mono ?_
  rintro e w1 ⟨rfl, rfl⟩
  go_upto_region 9 with fail
  go_region_held3 (fun _ => True) (trivial) (first
      | (go_at_call 66; (with_reducible refine (CL.out _ (by first | exact Ext.refl w | exact (Ext.refl w).drew)).mono ?_); rintro e w2 ⟨A2, c2, rfl, ho2, x2⟩; rw [Hkl.out] at ho2 ⊢; have HO2 := Lib.hid ho2; have X2 := Lib.hid x2; have xf2 := ext_cell x2 xf; have zf2 := frz_ext x2 xf zf; clear ho2 x2)
      | (go_at_call 65; refine (sbegin_any gx who 4 A2 m c2 val w2).mono ?_; rintro e w3 ⟨ta, tb, rfl, ka, kb, x3⟩; have KA := Lib.hid ka; have KB := Lib.hid kb; have X3 := Lib.hid x3; have xf3 := ext_cell x3 xf2; have zf3 := frz_ext x3 xf2 zf2; clear ka kb x3))
  all_goals
    go_wp2_with fail
    go_ret
    exact ⟨rfl, start_fin (op := 4) H.out hw HO2.out Hkl.out ((Ext.refl w).drew.trans X2.out) KA.out KB.out X3.out⟩
end Go.Proofs.Ytlgggeeflomelaa
