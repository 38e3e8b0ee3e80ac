/- the document's token Encode; Same. -/
import Derived.Test.YthkdjjfnmlemdaaTokE
import Derived.Deep.AppendLies
import Derived.Test.YthkdjjfnmlemdaaFrA
namespace Go.Proofs.Ythkdjjfnmlemdaa
open Go.RowKit

theorem own_head4b (w : World) (o : Obj) (p n : Nat) : ((w.alloc o).alloc (.cells #[.int .u8 83, .int .u8 71, .int .u8 (p : Int), .int .u8 (n : Int)] 5)).ownsRow w.heap.size 5 1 (.slice (some ⟨w.heap.size + 1, 0, none⟩) 4 4) 4 (vals .u8 [83, 71, p, n]) := by
  have h := own_head4 (w.alloc o) p n
  rw [World.size_alloc] at h
  exact own_base h (by omega)
set_option maxHeartbeats 2000000 in
theorem refTok_any (w : World) (p s : Nat) (A : Option Addr) (n c : Nat) (xs : List Nat) (hl : xs.length = n) (hb : ∀ x ∈ xs, x < 256) (hr : Rd w A (vals .u8 xs)) (h1 : 1 ≤ s) (h2 : s ≤ 4611686018427387903) (h4 : p < 32) (hn : n ≤ 255) :
    Calls Try.prog 68 #[tokV (p : Int) A n c (s : Int)] w (RetB (tokB p xs s) w) := by
  have Hl := Lib.hid hl; have Hr := Lib.hid hr; have Hb := Lib.hid hb; clear hl hr hb
  have hbl : (bodyT p xs s).length = 4 + n + 8 := by rw [bodyT_len, Hl.out]; omega
  have hbb : ∀ x ∈ bodyT p xs s, x < 256 := fun x hx => by
    simp only [bodyT, List.mem_cons, List.mem_append] at hx
    rcases hx with rfl | rfl | rfl | rfl | hx | hx
    · omega
    · omega
    · omega
    · have := Hl.out; omega
    · exact Hb.out x hx
    · exact wordB_lt _ _ x hx
  have Hbl := Lib.hid hbl; have Hbb := Lib.hid hbb; clear hbl hbb
  have hwn : IntKind.u8.wrap (n : Int) = (n : Int) := by rw [IntKind.wrap_u8]; omega
  have hwp : IntKind.u8.wrap (p : Int) = (p : Int) := by rw [IntKind.wrap_u8]; omega
  go_enter Try.func68, Try.ntmps68
  go_wp2_with (first | (at_builtin; refine app_u8 _ rfl (.tmp 12) (.tmp 14) rfl w.heap.size rfl (own_head4b w _ p n) rfl Hl.out ((Hr.out.alloc _).alloc _) (by omega) (by simp; omega) ?_; intro A6 c6 w6 hown6 hgrow6 _; have hk2 : w6.cell? ⟨w.heap.size, 2, none⟩ = some (.int .i64 (s : Int)) := (hgrow6.cell_far ⟨w.heap.size, 2, none⟩ (by simp; omega) (by simp [Value.ownBlock])).trans (cell_past (World.cell?_alloc_new _ _ _ _) _)) | fail)
  have hx6 : Ext w w6 := (((Ext.refl w).alloc _).alloc _).grown hgrow6 (fun k hk => by simp [Value.ownBlock] at hk; omega)
  have Hown6 := Lib.hid hown6; clear hown6 hgrow6 hk2
  have hs6 : w.heap.size ≤ w6.heap.size := hx6.size
  go_wp2_with fail
  refine (docWord_any w6 s 8 (by omega) (by omega)).mono ?_
  rintro e w7 ⟨A7, c7, rfl, hown7, hy7⟩
  rw [wordB_len] at hown7 ⊢
  have hr7 := Lib.hid (Rd.of_own hown7)
  have ho6 := own_ext Hown6.out hy7
  have hs7 : w6.heap.size ≤ w7.heap.size := hy7.size
  clear hown7 Hown6
  go_wp2_with (first | (at_builtin; refine app_u8 _ rfl (.tmp 16) (.tmp 20) rfl w.heap.size rfl ho6 rfl (wordB_len s 8) hr7.out (by omega) (by omega) ?_; intro A8 c8 w8 hown8 hgrow8 _) | fail)
  have hbody : [83, 71, p, n] ++ xs ++ wordB s 8 = bodyT p xs s := by rw [bodyT, Hl.out]; rfl
  rw [hbody] at hown8
  have hx8 : Ext w w8 := (hx6.trans hy7).grown hgrow8 (own_ge ho6)
  have hr8 := Lib.hid (Rd.of_own hown8)
  have hs8 : w7.heap.size ≤ w8.heap.size := hgrow8.size
  have Hown8 := Lib.hid hown8; clear hown8 hgrow8 ho6 hbody
  go_wp2_with fail
  refine (refSum_any A8 (4 + n + 8) c8 (bodyT p xs s) w8 Hbl.out Hbb.out (by omega) hr8.out).mono ?_
  rintro e w9 ⟨rfl, rfl⟩
  have hsum : ((upd 14695981039346656037 (bodyT p xs s) : Nat) : Int) % 4294967296 = ((sumT (bodyT p xs s) : Nat) : Int) := rfl
  have hslt : sumT (bodyT p xs s) < 4294967296 := Nat.mod_lt _ (by omega)
  go_wp2_with fail
  rw [hsum]
  refine (docWord_any w8 (sumT (bodyT p xs s)) 4 (by omega) (by omega)).mono ?_
  rintro e w10 ⟨A10, c10, rfl, hown10, hy10⟩
  rw [wordB_len] at hown10 ⊢
  have hr10 := Lib.hid (Rd.of_own hown10)
  have ho8 := own_ext Hown8.out hy10
  have hs10 : w8.heap.size ≤ w10.heap.size := hy10.size
  clear hown10 Hown8
  go_wp2_with (first | (at_builtin; refine app_u8 _ rfl (.tmp 22) (.tmp 26) rfl w.heap.size rfl ho8 rfl (wordB_len _ 4) hr10.out (by omega) (by omega) ?_; intro A11 c11 w11 hown11 hgrow11 _) | fail)
  have hx11 : Ext w w11 := (hx8.trans hy10).grown hgrow11 (own_ge ho8)
  have Hown11 := Lib.hid hown11
  have hlt : (tokB p xs s).length = 4 + n + 8 + 4 := by rw [tokB_len, Hl.out]; omega
  have Hlt := Lib.hid hlt; clear hlt hown11 hgrow11 ho8
  go_ret
  exact retB_of Hlt.out Hown11.out hx11

theorem refDocEnc_ok (w : World) (p s : Nat) (A : Option Addr) (n c : Nat) (xs : List Nat) (hl : xs.length = n) (hb : ∀ x ∈ xs, x < 256) (hr : Rd w A (vals .u8 xs)) (h1 : 1 ≤ s) (h2 : s ≤ 4611686018427387903) (h4 : p < 32) (hn : n ≤ 255) :
    Calls Try.prog 31 #[tokV (p : Int) A n c (s : Int)] w (RetBE (tokB p xs s) 0 w) := by
  have C := Lib.hid (fun w1 hr' => refTok_any w1 p s A n c xs hl hb hr' h1 h2 h4 hn)
  have Hr := Lib.hid hr; clear hl hr hb
  go_enter Try.func31, Try.ntmps31
  go_wp2_with fail
  refine (C.out _ (Hr.out.alloc _)).mono ?_
  rintro e w1 ⟨A1, c1, rfl, hown1, hy1⟩
  have Hown1 := Lib.hid hown1; clear hown1
  go_wp2_with fail
  go_ret2
  have hx : Ext w w1 := ((Ext.refl w).alloc _).trans hy1
  exact ⟨A1, c1, rfl, own_base Hown1.out (by simp), hx⟩
theorem refDocEnc_arg (w : World) (p s : Int) (A : Option Addr) (n c : Nat) (h : s < 1 ∨ 4611686018427387903 < s ∨ p < 0 ∨ 32 ≤ p) :
    Calls Try.prog 31 #[tokV p A n c s] w (RetE (.tuple #[.slice none 0 0, .int .i64 1]) w) := by
  by_cases hp : p < 0
  · go_enter Try.func31, Try.ntmps31
    go_wp2_with fail
    go_ret2
    exact ⟨rfl, (Ext.refl w).alloc _⟩
  · by_cases hp' : 32 ≤ p
    · go_enter Try.func31, Try.ntmps31
      go_wp2_with fail
      go_ret2
      exact ⟨rfl, (Ext.refl w).alloc _⟩
    · by_cases hs : s < 1
      · go_enter Try.func31, Try.ntmps31
        go_wp2_with fail
        go_ret2
        exact ⟨rfl, (Ext.refl w).alloc _⟩
      · have hs' : 4611686018427387903 < s := by omega
        go_enter Try.func31, Try.ntmps31
        go_wp2_with fail
        go_ret2
        exact ⟨rfl, (Ext.refl w).alloc _⟩
theorem refDocEnc_long (w : World) (p s : Int) (A : Option Addr) (n c : Nat) (h1 : 1 ≤ s) (h2 : s ≤ 4611686018427387903) (h3 : 0 ≤ p) (h4 : p < 32) (hn : 255 < n) :
    Calls Try.prog 31 #[tokV p A n c s] w (RetE (.tuple #[.slice none 0 0, .int .i64 2]) w) := by
  go_enter Try.func31, Try.ntmps31
  go_wp2_with fail
  go_ret2
  exact ⟨rfl, (Ext.refl w).alloc _⟩
end Go.Proofs.Ythkdjjfnmlemdaa
