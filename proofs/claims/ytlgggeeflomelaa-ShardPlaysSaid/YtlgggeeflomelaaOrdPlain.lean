/- The order of lists of bytes: the plain part. -/
import Derived.Test.YtlgggeeflomelaaBase
import Derived.Lib.Bytealg
namespace Go.Proofs.Ytlgggeeflomelaa
open Go.RowKit

def ord : List Nat → List Nat → Int
  | [], [] => 0
  | [], _ :: _ => -1
  | _ :: _, [] => 1
  | a :: as, b :: bs => if a < b then -1 else if b < a then 1 else ord as bs

def toBytes (xs : List Nat) : List UInt8 := xs.map UInt8.ofNat

theorem u8_lt (a b : Nat) (ha : a < 256) (hb : b < 256) : (UInt8.ofNat a < UInt8.ofNat b) ↔ a < b := by
  rw [UInt8.lt_iff_toNat_lt]
  simp only [UInt8.toNat_ofNat']
  omega

theorem compare_ord : ∀ (xs ys : List Nat), (∀ x ∈ xs, x < 256) → (∀ y ∈ ys, y < 256) → Lib.compareBytes (toBytes xs) (toBytes ys) = ord xs ys
  | [], [], _, _ => rfl
  | [], _ :: _, _, _ => rfl
  | _ :: _, [], _, _ => rfl
  | a :: as, b :: bs, h1, h2 => by
    have ih := compare_ord as bs (fun x hx => h1 x (List.mem_cons_of_mem _ hx)) (fun y hy => h2 y (List.mem_cons_of_mem _ hy))
    have ha := h1 a List.mem_cons_self
    have hb := h2 b List.mem_cons_self
    unfold toBytes at ih ⊢
    simp only [List.map_cons, Lib.compareBytes, ord, u8_lt a b ha hb, u8_lt b a hb ha, ih]

theorem ord_val (xs ys : List Nat) : ord xs ys = -1 ∨ ord xs ys = 0 ∨ ord xs ys = 1 := by
  induction xs generalizing ys with
  | nil => cases ys <;> simp [ord]
  | cons a as ih =>
    cases ys with
    | nil => simp [ord]
    | cons b bs =>
      simp only [ord]
      split
      · simp
      · split
        · simp
        · exact ih bs
theorem ord_swap (xs ys : List Nat) : ord ys xs = - ord xs ys := by
  induction xs generalizing ys with
  | nil => cases ys <;> simp [ord]
  | cons a as ih =>
    cases ys with
    | nil => simp [ord]
    | cons b bs =>
      simp only [ord]
      by_cases h : a < b
      · rw [if_neg (by omega), if_pos h, if_pos h]; rfl
      · by_cases h' : b < a
        · rw [if_pos h', if_neg h, if_pos h']
        · rw [if_neg h', if_neg h, if_neg h, if_neg h']; exact ih bs
theorem ord_eq (xs ys : List Nat) : ord xs ys = 0 ↔ xs = ys := by
  induction xs generalizing ys with
  | nil => cases ys <;> simp [ord]
  | cons a as ih =>
    cases ys with
    | nil => simp [ord]
    | cons b bs =>
      simp only [ord]
      by_cases h : a < b
      · rw [if_pos h]; simp; omega
      · by_cases h' : b < a
        · rw [if_neg h, if_pos h']; simp; omega
        · rw [if_neg h, if_neg h', ih bs]
          have : a = b := by omega
          simp [this]
theorem ord_refl (xs : List Nat) : ord xs xs = 0 := (ord_eq xs xs).2 rfl
theorem ord_trans (xs ys zs : List Nat) : (ord xs ys ≤ 0 → ord ys zs ≤ 0 → ord xs zs ≤ 0) ∧ (ord xs ys < 0 → ord ys zs ≤ 0 → ord xs zs = -1) ∧ (ord xs ys ≤ 0 → ord ys zs < 0 → ord xs zs = -1) := by
  induction xs generalizing ys zs with
  | nil => cases ys <;> cases zs <;> simp [ord]
  | cons a as ih =>
    cases ys with
    | nil => simp [ord]
    | cons b bs =>
      cases zs with
      | nil => simp [ord]
      | cons c cs =>
        have := ih bs cs
        simp only [ord]
        by_cases h1 : a < b <;> by_cases h2 : b < a <;> by_cases h3 : b < c <;> by_cases h4 : c < b <;> by_cases h5 : a < c <;> by_cases h6 : c < a <;> simp only [h1, h2, h3, h4, h5, h6, if_true, if_false] <;> first | exact this | (simp; done) | (simp; omega) | omega
theorem ord_drop {xs ys : List Nat} {k : Nat} (h : xs.take k = ys.take k) (hx : k ≤ xs.length) (hy : k ≤ ys.length) : ord xs ys = ord (xs.drop k) (ys.drop k) := by
  induction k generalizing xs ys with
  | zero => rfl
  | succ k ih =>
    cases xs with
    | nil => simp at hx
    | cons a as =>
      cases ys with
      | nil => simp at hy
      | cons b bs =>
        simp only [List.take_succ_cons, List.cons.injEq] at h
        obtain ⟨rfl, h⟩ := h
        simp only [List.drop_succ_cons, ord]
        rw [if_neg (by omega), if_neg (by omega)]
        exact ih h (by simpa using hx) (by simpa using hy)
theorem drop_of {xs : List Nat} {k x : Nat} (h : xs[k]? = some x) : xs.drop k = x :: xs.drop (k + 1) := by
  obtain ⟨hk, hx⟩ := List.getElem?_eq_some_iff.1 h
  rw [List.drop_eq_getElem_cons hk, hx]
theorem ord_at {xs ys : List Nat} {k x y : Nat} (h : xs.take k = ys.take k) (hx : xs[k]? = some x) (hy : ys[k]? = some y) : ord xs ys = if x < y then -1 else if y < x then 1 else ord (xs.drop (k + 1)) (ys.drop (k + 1)) := by
  have h1 := (List.getElem?_eq_some_iff.1 hx).1
  have h2 := (List.getElem?_eq_some_iff.1 hy).1
  rw [ord_drop h (by omega) (by omega), drop_of hx, drop_of hy, ord]
theorem ord_end {xs ys : List Nat} {k : Nat} (h : xs.take k = ys.take k) (hx : k ≤ xs.length) (hy : k ≤ ys.length) (he : k = xs.length ∨ k = ys.length) : ord xs ys = if xs.length < ys.length then -1 else if ys.length < xs.length then 1 else 0 := by
  rw [ord_drop h hx hy]
  rcases he with he | he
  · have : xs.drop k = [] := List.drop_of_length_le (by omega)
    rw [this]
    by_cases h' : xs.length < ys.length
    · rw [if_pos h', List.drop_eq_getElem_cons (by omega : k < ys.length)]; rfl
    · have : ys.drop k = [] := List.drop_of_length_le (by omega)
      rw [this, if_neg h', if_neg (by omega)]; rfl
  · have : ys.drop k = [] := List.drop_of_length_le (by omega)
    rw [this]
    by_cases h' : ys.length < xs.length
    · rw [if_neg (by omega), if_pos h', List.drop_eq_getElem_cons (by omega : k < xs.length)]; rfl
    · have : xs.drop k = [] := List.drop_of_length_le (by omega)
      rw [this, if_neg (by omega), if_neg h']; rfl

/-- what the model's entries read of a slice of bytes -/
theorem run_loadB {P : Program} (w : World) (b : Nat) : ∀ (xs : List Nat) (off : Nat) (acc : ByteArray), (∀ (j x : Nat), xs[j]? = some x → w.cell? ⟨b, off + j, none⟩ = some (.int .u8 (x : Int))) →
    (Extern.Bytes.loadBytes ⟨b, off, none⟩ xs.length acc).run P w = .ok ⟨acc.data ++ (toBytes xs).toArray⟩ w
  | [], off, acc, _ => by simp [Extern.Bytes.loadBytes, toBytes]
  | x :: l, off, acc, h => by
    have h0 := h 0 x rfl
    have ih := run_loadB (P := P) w b l (off + 1) (acc.push (UInt8.ofNat x)) (fun j y hy => by
      have := h (j + 1) y (by simpa using hy)
      rw [show off + 1 + j = off + (j + 1) by omega]; exact this)
    simp only [Nat.add_zero] at h0
    simp only [List.length_cons, Extern.Bytes.loadBytes, Sem.run_bind, run_load, h0, Result.andThen]
    rw [Addr.add_lit]
    simp only [Int.toNat_natCast]
    have e : (x.toUInt8 : UInt8) = UInt8.ofNat x := rfl
    rw [e, ih]
    congr 1
    apply ByteArray.ext
    simp [ByteArray.push, toBytes]
theorem run_bytesB {P : Program} {w : World} {A : Option Addr} {n c : Nat} {xs : List Nat} (hl : xs.length = n) (hr : Rd w A (vals .u8 xs)) :
    (Extern.Bytes.bytesOf (.slice A n c)).run P w = .ok ⟨(toBytes xs).toArray⟩ w := by
  cases xs with
  | nil =>
    subst hl
    cases A <;> rfl
  | cons x l =>
    obtain ⟨b, off, rfl, hc⟩ := hr (by simp [vals])
    have := run_loadB (P := P) w b (x :: l) off .empty (fun j y hy => hc j _ (vals_get hy))
    rw [hl] at this
    unfold Extern.Bytes.bytesOf
    rw [this]
    congr 1
    apply ByteArray.ext
    simp
theorem run_cmpB {P : Program} {w : World} {A B : Option Addr} {n c m d : Nat} {xs ys : List Nat} (hl : xs.length = n) (hr : Rd w A (vals .u8 xs)) (hl' : ys.length = m) (hr' : Rd w B (vals .u8 ys))
    (hb : ∀ x ∈ xs, x < 256) (hb' : ∀ x ∈ ys, x < 256) :
    (Extern.BytealgCompare.compare #[.slice A n c, .slice B m d]).run P w = .ok (.int .i64 (ord xs ys)) w := by
  change Sem.run P (do pure (goInt (Extern.BytealgCompare.cmp (← Extern.Bytes.bytesOf (.slice A n c)) (← Extern.Bytes.bytesOf (.slice B m d))))) w = _
  simp only [Sem.run_bind, Sem.run_pure, Result.andThen, run_bytesB hl hr, run_bytesB hl' hr']
  rw [Lib.cmp_eq]
  simp only [compare_ord xs ys hb hb']
  rfl
end Go.Proofs.Ytlgggeeflomelaa
