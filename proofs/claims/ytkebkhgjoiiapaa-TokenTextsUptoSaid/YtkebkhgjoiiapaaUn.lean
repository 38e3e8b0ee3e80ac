/- token.Unhex and the document's; the document's Hex. -/
import Derived.Test.YtkebkhgjoiiapaaUnPlain
import Derived.Test.YtkebkhgjoiiapaaShelf
import Derived.Test.YtkebkhgjoiiapaaRet
import Derived.Test.YtkebkhgjoiiapaaTok
import Derived.Test.YtkebkhgjoiiapaaFrC
import Derived.Deep.DeepCutAuto
import Derived.Laws.BytesArg
import Derived.Laws.IdiomStrings
import Derived.Deep.QuietTactic
import Derived.BigQuiet
namespace Go.Proofs.Ytkebkhgjoiiapaa
open Go.RowKit

/-- what Unhex and DocUnhex leave -/
def RetUn (l : List UInt8) (w : World) (e : Ending) (w' : World) : Prop :=
  (unhexL l = none → RetE (.tuple #[.slice none 0 0, .int .i64 3]) w e w') ∧ (∀ xs, unhexL l = some xs → RetBE xs 0 w e w')

theorem back_any (c : Nat) (hc : c < 256) (w : World) : Calls Try.prog 62 #[.int .u8 (c : Int)] w fun e w' => e = .returned (.int .i64 (backN c)) ∧ w = w' := by
  have hb : backN c = backN c := rfl
  unfold backN at hb
  by_cases h1 : 48 ≤ c ∧ c ≤ 57
  · have e : backN c = (c : Int) - 48 := by unfold backN; rw [if_pos h1]
    rw [e]
    obtain ⟨h2, h3⟩ := h1
    clear hb e
    go_enter Try.func62, Try.ntmps62
    go_wp2_with fail
    go_ret
    exact ⟨rfl, rfl⟩
  · by_cases h2 : 97 ≤ c ∧ c ≤ 102
    · have e : backN c = (c : Int) - 97 + 10 := by unfold backN; rw [if_neg h1, if_pos h2]; omega
      rw [e]
      obtain ⟨h2, h3⟩ := h2
      have h4 : 57 < c := by omega
      clear hb e h1
      go_enter Try.func62, Try.ntmps62
      go_wp2_with fail
      go_ret
      exact ⟨rfl, rfl⟩
    · have e : backN c = -1 := by unfold backN; rw [if_neg h1, if_neg h2]
      rw [e]
      have hcs : c < 48 ∨ (57 < c ∧ c < 97) ∨ 102 < c := by omega
      clear hb e h1 h2
      rcases hcs with h | ⟨h, h'⟩ | h
      · go_enter Try.func62, Try.ntmps62
        go_wp2_with fail
        go_ret
        exact ⟨rfl, rfl⟩
      · go_enter Try.func62, Try.ntmps62
        go_wp2_with fail
        go_ret
        exact ⟨rfl, rfl⟩
      · have h' : 57 < c := by omega
        go_enter Try.func62, Try.ntmps62
        go_wp2_with fail
        go_ret
        exact ⟨rfl, rfl⟩
theorem half_any (d : Nat) (hd : d < 16) (w : World) : Calls Try.prog 65 #[.int .u8 (d : Int)] w fun e w' => e = .returned (.int .u8 (digitN d : Int)) ∧ w = w' := by
  by_cases h : d < 10
  · have e : ((digitN d : Nat) : Int) = 48 + (d : Int) := by unfold digitN; rw [if_pos h]; omega
    rw [e]
    clear e
    go_enter Try.func65, Try.ntmps65
    go_wp2_with fail
    go_ret
    exact ⟨rfl, rfl⟩
  · have e : ((digitN d : Nat) : Int) = 97 + (d : Int) - 10 := by unfold digitN; rw [if_neg h]; omega
    rw [e]
    clear e
    go_enter Try.func65, Try.ntmps65
    go_wp2_with fail
    go_ret
    exact ⟨rfl, rfl⟩
theorem idx_any (c : Nat) (hc : c < 256) (w : World) : Calls Try.prog 61 #[.string ⟨#[48, 49, 50, 51, 52, 53, 54, 55, 56, 57, 97, 98, 99, 100, 101, 102]⟩, .int .u8 (c : Int)] w fun e w' => e = .returned (.int .i64 (backN c)) ∧ w = w' :=
  (indexByte_any _ (c : Int) w).mono fun e w' ⟨he, hw⟩ => ⟨by rw [he]; congr 2; exact idx_backN ⟨c, hc⟩, hw.symm⟩

theorem unhex_long (s : ByteArray) (w : World) (h : 65536 < s.size) :
    Calls Try.prog 35 #[.string s] w (RetE (.tuple #[.slice none 0 0, .int .i64 2]) w) := by
  go_enter Try.func35, Try.ntmps35
  go_wp2_with fail
  go_ret2
  exact ⟨rfl, Ext.refl w⟩
theorem refUnhex_long (s : ByteArray) (w : World) (h : 65536 < s.size) :
    Calls Try.prog 36 #[.string s] w (RetE (.tuple #[.slice none 0 0, .int .i64 2]) w) := by
  go_enter Try.func36, Try.ntmps36
  go_wp2_with fail
  go_ret2
  exact ⟨rfl, Ext.refl w⟩

theorem get_data (s : ByteArray) (i : Nat) (h : i < s.size) : s.data.toList[i]? = some s[i] := by
  rw [Array.getElem?_toList]
  exact Array.getElem?_eq_getElem h

theorem or_half (a b : Nat) (ha : a < 16) (hb : b < 16) : bits .or .i64 ((a : Int) * 16) (b : Int) = ((16 * a + b : Nat) : Int) := by
  have e : ((a : Int) * 16) = ((a * 16 : Nat) : Int) := by omega
  rw [e, i64_or_nat' _ _ (by omega) (by omega)]
  congr 1
  have h := Nat.two_pow_add_eq_or_of_lt (i := 4) (b := b) (by omega) a
  simp only [Nat.reducePow] at h
  rw [Nat.mul_comm a 16]
  exact h.symm

set_option maxHeartbeats 2000000 in
set_option maxRecDepth 100000 in
theorem unhex_any (s : ByteArray) (w : World) (hs : s.size ≤ 65536) :
    Calls Try.prog 35 #[.string s] w (RetUn s.data.toList w) := by
  by_cases hodd : s.size % 2 = 1
  · have H := Lib.hid (unhexL_odd _ s.data.toList (Nat.le_refl _) hodd)
    have hne : ((s.size : Int) % 2 != 0) = true := by simp; omega
    clear hodd
    go_enter Try.func35, Try.ntmps35
    go_wp2_with fail
    go_ret2
    exact ⟨fun _ => ⟨rfl, Ext.refl w⟩, fun xs hx => by rw [H.out] at hx; cases hx⟩
  · have hne : ((s.size : Int) % 2 != 0) = false := by simp; omega
    have hpar := Lib.hid (show s.size % 2 = 0 by omega)
    clear hodd
    go_enter Try.func35, Try.ntmps35
    go_wp2_with fail
    clear hne
    go_loopg [4, 5] s.size (fun g v4 v5 wr => ∃ (k : Nat) (A : Option Addr) (c : Nat) (done : List Nat), 2 * k ≤ s.size ∧ g = s.size - 2 * k ∧ v4 = .slice A k c ∧ v5 = .int .i64 ((2 * k : Nat) : Int) ∧ done.length = k ∧ wr.ownsRow w.heap.size 5 1 (.slice A k c) k (vals .u8 done) ∧ Ext w wr ∧ unhexL s.data.toList = (unhexL (s.data.toList.drop (2 * k))).map (done ++ ·))
    case atStart => exact ⟨0, none, 0, [], by omega, rfl, rfl, rfl, rfl, World.ownsRow_nil _ _ _ _, Ext.refl w, by simp⟩
    case round =>
      obtain ⟨k, A, c, done, hk, rfl, rfl, rfl, hdl, hown, hx, hun⟩ := hrel
      have Hdl := Lib.hid hdl; have Hown := Lib.hid hown; have Hx := Lib.hid hx; have Hun := Lib.hid hun
      clear hdl hown hx hun
      obtain ⟨i, hi⟩ : ∃ i, 2 * k = i := ⟨_, rfl⟩
      rw [hi] at Hun ⊢
      by_cases hlt : i < s.size
      · have hi1 : i + 1 < s.size := by have := hpar.out; omega
        have st := unhex_step s.data.toList i s[i] s[i + 1] done (get_data s i hlt) (get_data s (i + 1) hi1) Hun.out
        have ba := backN_bd s[i].toNat
        have bb := backN_bd s[i + 1].toNat
        have q1 : (i : Int) < s.size := by omega
        have q2 : (i : Int) + 1 < s.size := by omega
        have e1 : IntKind.i64.wrap ((i : Int) + 1) = (i : Int) + 1 := by rw [IntKind.wrap_i64]; omega
        have e2 : (0 : Int) ≤ (i : Int) + 1 := by omega
        have e3 : ((i : Int) + 1).toNat = i + 1 := by omega
        have C1 := Lib.hid (fun q => idx_any s[i].toNat (s[i].toNat_lt) (wr.drewN q))
        have C2 := Lib.hid (fun q => idx_any s[i + 1].toNat (s[i + 1].toNat_lt) (wr.drewN q))
        have St := Lib.hid st; clear st
        go_upto_region 9 with fail
        go_quiet ((first
          | (go_at_call 61; (with_reducible exact quiet_eq (C1.out _)))
          | (go_at_call 61; (with_reducible exact quiet_eq (C2.out _)))
          | (go_at_call 61; (with_reducible exact quiet_add_eq (C1.out _)))
          | (go_at_call 61; (with_reducible exact quiet_add_eq (C2.out _)))))
        clear C1 C2
        have Hi := Lib.hid hi; clear hi
        generalize s[i + 1] = cb at *
        generalize s[i] = ca at *
        clear e1 e2 e3 q1 q2
        generalize backN ca.toNat = x at *
        generalize backN cb.toNat = y at *
        by_cases hneg : x < 0 ∨ y < 0
        · have hnone := Lib.hid (St.out.1 hneg)
          have hc : x < 0 ∨ (0 ≤ x ∧ y < 0) := by omega
          clear hneg St
          rcases hc with h1 | ⟨h1, h2⟩
          · go_wp2_with fail
            go_ret2
            exact ⟨fun _ => ⟨rfl, Hx.out.drewN _⟩, fun xs hx => by rw [hnone.out] at hx; cases hx⟩
          · go_wp2_with fail
            go_ret2
            exact ⟨fun _ => ⟨rfl, Hx.out.drewN _⟩, fun xs hx => by rw [hnone.out] at hx; cases hx⟩
        · have hsome := Lib.hid (St.out.2 hneg)
          obtain ⟨a, rfl⟩ : ∃ a : Nat, x = (a : Int) := ⟨x.toNat, by omega⟩
          obtain ⟨b, rfl⟩ : ∃ b : Nat, y = (b : Int) := ⟨y.toNat, by omega⟩
          have ha : a < 16 := by omega
          have hb : b < 16 := by omega
          have e4 : (16 * (a : Int) + (b : Int)).toNat = 16 * a + b := by omega
          rw [e4] at hsome
          have hor := or_half a b ha hb
          have hab : 16 * a + b < 256 := by omega
          have hsz : w.heap.size ≤ wr.heap.size := Hx.out.size
          clear hneg St ba bb e4
          have hown : (wr.drewN nq).ownsRow w.heap.size 5 1 (.slice A k c) k (vals .u8 done) := Hown.out
          have hk2 : k ≤ 32768 := by omega
          go_wp2_with (first | (at_builtin; refine app_u8 _ rfl (.tmp 36) (.tmp 42) rfl w.heap.size rfl (hown.alloc _) rfl (m := 1) (news := [16 * a + b]) rfl (rd_new _ _ _) (by omega) (by simp; omega) ?_; intro A1 c1 w1 hown1 hgrow1 _) | fail)
          go_roundg (s.size - (i + 2))
          case measure => have := Hi.out; omega
          case rel =>
            have := Hi.out
            refine ⟨k + 1, A1, c1, done ++ [16 * a + b], by omega, by omega, rfl, by go_num, by rw [List.length_append, Hdl.out]; rfl, hown1, ((Hx.out.drewN nq).alloc _).grown hgrow1 (own_ge hown), ?_⟩
            rw [show 2 * (k + 1) = i + 2 by omega]
            exact hsome.out
      · have hi2 : s.size ≤ i := by omega
        have hd : s.data.toList.drop i = [] := List.drop_of_length_le hi2
        have hun := Hun.out
        rw [hd] at hun
        have Hun2 := Lib.hid hun
        clear hd hun
        go_wp2_with fail
        go_ret2
        refine ⟨fun h => by rw [Hun2.out] at h; simp [unhexL] at h, fun xs h => ?_⟩
        rw [Hun2.out] at h
        simp only [unhexL, Option.map_some, List.append_nil, Option.some.injEq] at h
        subst h
        exact retBE_of Hdl.out Hown.out Hx.out
set_option maxHeartbeats 2000000 in
set_option maxRecDepth 100000 in
theorem refUnhex_any (s : ByteArray) (w : World) (hs : s.size ≤ 65536) :
    Calls Try.prog 36 #[.string s] w (RetUn s.data.toList w) := by
  by_cases hodd : s.size % 2 = 1
  · have H := Lib.hid (unhexL_odd _ s.data.toList (Nat.le_refl _) hodd)
    have hne : ((s.size : Int) % 2 == 1) = true := by simp; omega
    clear hodd
    go_enter Try.func36, Try.ntmps36
    go_wp2_with fail
    go_ret2
    exact ⟨fun _ => ⟨rfl, Ext.refl w⟩, fun xs hx => by rw [H.out] at hx; cases hx⟩
  · have hne : ((s.size : Int) % 2 == 1) = false := by simp; omega
    have hpar := Lib.hid (show s.size % 2 = 0 by omega)
    clear hodd
    go_enter Try.func36, Try.ntmps36
    go_wp2_with fail
    clear hne
    go_loopg [4, 5] s.size (fun g v4 v5 wr => ∃ (k : Nat) (A : Option Addr) (c : Nat) (done : List Nat), 2 * k ≤ s.size ∧ g = s.size - 2 * k ∧ v4 = .slice A k c ∧ v5 = .int .i64 ((2 * k : Nat) : Int) ∧ done.length = k ∧ wr.ownsRow w.heap.size 5 1 (.slice A k c) k (vals .u8 done) ∧ Ext w wr ∧ unhexL s.data.toList = (unhexL (s.data.toList.drop (2 * k))).map (done ++ ·))
    case atStart => exact ⟨0, none, 0, [], by omega, rfl, rfl, rfl, rfl, World.ownsRow_nil _ _ _ _, Ext.refl w, by simp⟩
    case round =>
      obtain ⟨k, A, c, done, hk, rfl, rfl, rfl, hdl, hown, hx, hun⟩ := hrel
      have Hdl := Lib.hid hdl; have Hown := Lib.hid hown; have Hx := Lib.hid hx; have Hun := Lib.hid hun
      clear hdl hown hx hun
      obtain ⟨i, hi⟩ : ∃ i, 2 * k = i := ⟨_, rfl⟩
      rw [hi] at Hun ⊢
      by_cases hlt : i < s.size
      · have hi1 : i + 1 < s.size := by have := hpar.out; omega
        have st := unhex_step s.data.toList i s[i] s[i + 1] done (get_data s i hlt) (get_data s (i + 1) hi1) Hun.out
        have ba := backN_bd s[i].toNat
        have bb := backN_bd s[i + 1].toNat
        have q1 : (i : Int) < s.size := by omega
        have q2 : (i : Int) + 1 < s.size := by omega
        have e1 : IntKind.i64.wrap ((i : Int) + 1) = (i : Int) + 1 := by rw [IntKind.wrap_i64]; omega
        have e2 : (0 : Int) ≤ (i : Int) + 1 := by omega
        have e3 : ((i : Int) + 1).toNat = i + 1 := by omega
        have C1 := Lib.hid (fun q => back_any s[i].toNat (s[i].toNat_lt) (wr.drewN q))
        have C2 := Lib.hid (fun q => back_any s[i + 1].toNat (s[i + 1].toNat_lt) (wr.drewN q))
        have St := Lib.hid st; clear st
        go_upto_region 9 with fail
        go_quiet ((first
          | (go_at_call 62; (with_reducible exact quiet_eq (C1.out _)))
          | (go_at_call 62; (with_reducible exact quiet_eq (C2.out _)))
          | (go_at_call 62; (with_reducible exact quiet_add_eq (C1.out _)))
          | (go_at_call 62; (with_reducible exact quiet_add_eq (C2.out _)))))
        clear C1 C2
        have Hi := Lib.hid hi; clear hi
        generalize s[i + 1] = cb at *
        generalize s[i] = ca at *
        clear e1 e2 e3 q1 q2
        generalize backN ca.toNat = x at *
        generalize backN cb.toNat = y at *
        by_cases hneg : x < 0 ∨ y < 0
        · have hnone := Lib.hid (St.out.1 hneg)
          have hc : x < 0 ∨ (0 ≤ x ∧ y < 0) := by omega
          clear hneg St
          rcases hc with h1 | ⟨h1, h2⟩
          · go_wp2_with fail
            go_ret2
            exact ⟨fun _ => ⟨rfl, Hx.out.drewN _⟩, fun xs hx => by rw [hnone.out] at hx; cases hx⟩
          · go_wp2_with fail
            go_ret2
            exact ⟨fun _ => ⟨rfl, Hx.out.drewN _⟩, fun xs hx => by rw [hnone.out] at hx; cases hx⟩
        · have hsome := Lib.hid (St.out.2 hneg)
          obtain ⟨a, rfl⟩ : ∃ a : Nat, x = (a : Int) := ⟨x.toNat, by omega⟩
          obtain ⟨b, rfl⟩ : ∃ b : Nat, y = (b : Int) := ⟨y.toNat, by omega⟩
          have ha : a < 16 := by omega
          have hb : b < 16 := by omega
          have e4 : (16 * (a : Int) + (b : Int)).toNat = 16 * a + b := by omega
          rw [e4] at hsome
          have hor := Lib.hid (show IntKind.u8.wrap (16 * (a : Int) + (b : Int)) = ((16 * a + b : Nat) : Int) by rw [IntKind.wrap_u8]; omega)
          have hab : 16 * a + b < 256 := by omega
          have hsz : w.heap.size ≤ wr.heap.size := Hx.out.size
          clear hneg St ba bb e4
          have hown : (wr.drewN nq).ownsRow w.heap.size 5 1 (.slice A k c) k (vals .u8 done) := Hown.out
          have hk2 : k ≤ 32768 := by omega
          go_wp2_with (first | (at_builtin; refine app_u8 _ rfl (.tmp 37) (.tmp 43) rfl w.heap.size rfl (hown.alloc _) rfl (m := 1) (news := [16 * a + b]) rfl (rd_new _ _ _) (by omega) (by simp; omega) ?_; intro A1 c1 w1 hown1 hgrow1 _) | fail)
          go_roundg (s.size - (i + 2))
          case measure => have := Hi.out; omega
          case rel =>
            have := Hi.out
            refine ⟨k + 1, A1, c1, done ++ [16 * a + b], by omega, by omega, rfl, by go_num, by rw [List.length_append, Hdl.out]; rfl, hown1, ((Hx.out.drewN nq).alloc _).grown hgrow1 (own_ge hown), ?_⟩
            rw [show 2 * (k + 1) = i + 2 by omega]
            exact hsome.out
      · have hi2 : s.size ≤ i := by omega
        have hd : s.data.toList.drop i = [] := List.drop_of_length_le hi2
        have hun := Hun.out
        rw [hd] at hun
        have Hun2 := Lib.hid hun
        clear hd hun
        go_wp2_with fail
        go_ret2
        refine ⟨fun h => by rw [Hun2.out] at h; simp [unhexL] at h, fun xs h => ?_⟩
        rw [Hun2.out] at h
        simp only [unhexL, Option.map_some, List.append_nil, Option.some.injEq] at h
        subst h
        exact retBE_of Hdl.out Hown.out Hx.out

theorem conv_bytes (w : World) (A : Option Addr) (c n : Nat) (xs : List Nat) (hl : xs.length = n) (hb : ∀ x ∈ xs, x < 256) (hr : Rd w A (vals .u8 xs)) :
    (convert 22 9 (.slice A n c)).run Try.prog w = .ok (.string ⟨(xs.map fun x => x.toUInt8).toArray⟩) w := by
  subst hl
  cases A with
  | none =>
    have := rd_none hr
    subst this
    exact run_convert_bytes_nil w 22 5 Try.underlying22 Try.underlying5 _ _ _ Try.underlying9
  | some a =>
    have h := run_convert_bytes_back (P := Try.prog) w 22 9 5 a c (xs.map fun x => x.toUInt8) Try.underlying22 Try.underlying5 Try.underlying9 (fun j hj => by
      have hj' : j < xs.length := by simpa using hj
      obtain ⟨x, hx⟩ := get_of_lt hj'
      obtain ⟨b, off, hA, _, hc⟩ := hr.at_ hx
      injection hA with hA
      subst hA
      rw [Addr.add_lit, hc]
      have hx256 := hb x (List.mem_of_getElem? hx)
      have e : (xs.map fun x => x.toUInt8)[j] = x.toUInt8 := by
        rw [List.getElem_map]
        congr 1
        exact (List.getElem?_eq_some_iff.1 hx).2
      rw [e]
      simp only [Nat.toUInt8, UInt8.toNat_ofNat']
      rw [Nat.mod_eq_of_lt hx256])
    rw [List.length_map] at h
    exact h
set_option maxHeartbeats 2000000 in
set_option maxRecDepth 100000 in
theorem refHex_any (w : World) (A : Option Addr) (n c : Nat) (xs : List Nat) (hl : xs.length = n) (hb : ∀ x ∈ xs, x < 256) (hr : Rd w A (vals .u8 xs)) (hn : n ≤ 35184372088000) :
    Calls Try.prog 38 #[.slice A n c] w (RetE (.string ⟨((hexN xs).map fun x => x.toUInt8).toArray⟩) w) := by
  have Hl := Lib.hid hl; have Hr := Lib.hid hr; have Hb := Lib.hid hb; clear hl hr hb
  go_enter Try.func38, Try.ntmps38
  go_wp2_with fail
  go_loopg [3, 8] n (fun g v3 v8 wr => ∃ (k : Nat) (B : Option Addr) (cb : Nat), k ≤ n ∧ g = n - k ∧ v3 = .slice B (2 * k) cb ∧ v8 = .int .i64 (k : Int) ∧ Ext w wr ∧ wr.ownsRow w.heap.size 5 1 (.slice B (2 * k) cb) (2 * k) (vals .u8 (hexN (xs.take k))))
  case atStart => exact ⟨0, none, 0, Nat.zero_le _, rfl, rfl, rfl, Ext.refl w, World.ownsRow_nil _ _ _ _⟩
  case round =>
    obtain ⟨k, B, cb, hk, rfl, rfl, rfl, hx, ho⟩ := hrel
    have Hx := Lib.hid hx; clear hx
    by_cases hlt : k < n
    · obtain ⟨x, hxk⟩ := get_of_lt (xs := xs) (j := k) (by rw [Hl.out]; exact hlt)
      have hx256 : x < 256 := Hb.out x (List.mem_of_getElem? hxk)
      obtain ⟨b, off, hA, hb', hc⟩ := (Hr.out.ext Hx.out).at_ hxk
      have Hxk := Lib.hid hxk; clear hxk
      subst hA
      have hws : w.heap.size ≤ wr.heap.size := Hx.out.size
      have hq : x / 16 < 16 := by omega
      have hm : x % 16 < 16 := Nat.mod_lt _ (by omega)
      have C1 := Lib.hid (half_any (x / 16) hq wr)
      have C2 := Lib.hid (half_any (x % 16) hm wr)
      go_wp2_with fail
      refine C1.out.mono ?_
      rintro e w1 ⟨rfl, rfl⟩
      go_wp2_with fail
      refine C2.out.mono ?_
      rintro e w1 ⟨rfl, rfl⟩
      clear C1 C2
      go_wp2_with (first | (at_builtin; refine app_u8 _ rfl (.tmp 12) (.tmp 19) rfl w.heap.size rfl (ho.alloc _) rfl (m := 2) (news := [digitN (x / 16), digitN (x % 16)]) rfl (rd_new _ _ _) (by omega) (by simp; omega) ?_; intro A1 c1 w1 hown1 hgrow1 _) | fail)
      go_roundg (n - (k + 1))
      case measure => omega
      case rel =>
        have e : hexN (xs.take (k + 1)) = hexN (xs.take k) ++ [digitN (x / 16), digitN (x % 16)] := by
          rw [take_succ_of Hxk.out]; simp [hexN, List.flatMap_append]
        refine ⟨k + 1, A1, c1, hlt, rfl, rfl, by go_num, (Hx.out.alloc _).grown hgrow1 (own_ge ho), ?_⟩
        rw [e]
        exact hown1
    · obtain rfl : k = n := by omega
      have e1 : xs.take k = xs := List.take_of_length_le (by rw [Hl.out]; omega)
      rw [e1] at ho
      have hcv := conv_bytes wr B cb (2 * k) (hexN xs) (by rw [hexN_len, Hl.out]) (hexN_lt xs Hb.out) (Rd.of_own ho)
      clear e1 ho
      go_wp2_with fail
      go_ret
      exact ⟨rfl, Hx.out⟩
end Go.Proofs.Ytkebkhgjoiiapaa
